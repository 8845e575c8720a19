/- slices.Sort at numbers: pdqsort of less than 50. Each theorem says its own conditions. -/
import Derived.Test.YtjiligngjlejmaaSb
import Derived.Test.YtjiligngjlejmaaSc
import Derived.Test.YtjiligngjlejmaaSd
import Derived.Test.YtjiligngjlejmaaSe
import Derived.Test.YtjiligngjlejmaaSf
import Derived.Test.YtjiligngjlejmaaSh
import Derived.Deep.CutRange
import Derived.Sort.Walk13a
import Derived.Sort.AssemblyPlain
import Derived.BigQuiet
import Derived.CellFam
import Derived.Sort.WalkA
import Derived.Sort.WalkA6
namespace Go.Proofs.Ytjiligngjlejmaa.Srt
open Go.RowKit Go.Sort Go.Proofs.Ytjiligngjlejmaa.Mem Go.Proofs.YtjiligngjlejmaaW.PrintWords Go.Proofs.YtjiligngjlejmaaW.PrintLast Go.Proofs.YtjiligngjlejmaaW.PrintMore
set_option linter.unusedVariables false
set_option linter.unusedSimpArgs false

set_option maxHeartbeats 12800000 in
set_option maxRecDepth 100000 in
theorem pdq16 (N : Nat) : ∀ (blk off cap a b limit : Nat) (d : Array Int) (w : World), b - a = N → Holds e16 w blk off d → blk < w.heap.size → a ≤ b → b ≤ d.size → N < 50 → d.size ≤ 1000000 → limit ≤ 100 → Sort.Below ltInt a b d →
    Calls Try.prog 21 #[.slice (some ⟨blk, off, none⟩) d.size cap, .int .i64 a, .int .i64 b, .int .i64 limit] w fun e w' => e = .returned (.tuple #[]) ∧ AtB w blk off d (pdq ltInt d a b limit true true) w' := by
  induction N using Nat.strongRecOn with
  | ind N ih =>
  intro blk off cap a b limit d w hN hH hblk hab hb h50 hsz hlim hBel
  have HH := Aside0.mk (And.intro (AtB.self hH hblk) (And.intro ih hBel))
  clear hH ih hBel hblk
  go_enter Try.func21, Try.ntmps21
  go_wp2
  go_loopw [1, 2, 3, 8, 9] (fun x1 x2 x3 x8 x9 wr => ∃ (a' b' lim : Nat) (wb wp : Bool) (dk : Array Int), x1 = .int .i64 a' ∧ x2 = .int .i64 b' ∧ x3 = .int .i64 lim ∧ x8 = .bool wb ∧ x9 = .bool wp ∧ a' ≤ b' ∧ b' ≤ d.size ∧ b' - a' ≤ N ∧ lim ≤ limit ∧ AtB w blk off d dk wr ∧ Sort.Below ltInt a' b' dk ∧ pdq ltInt dk a' b' lim wb wp = pdq ltInt d a b limit true true) (fun x1 x2 _ _ _ _ => (intOf x2 - intOf x1).toNat)
  case atStart => exact ⟨a, b, limit, true, true, d, rfl, rfl, rfl, rfl, rfl, hab, hb, by omega, Nat.le_refl _, HH.out.1, HH.out.2.2, rfl⟩
  case round =>
    clear hN hab hb
    obtain ⟨a', b', lim, wb, wp, dk, rfl, rfl, rfl, rfl, rfl, hab, hb, hN, hl, hA, hBel, hO⟩ := hrel
    have hds := hA.size
    by_cases h12 : b' - a' ≤ 12
    · have hins := ins16 blk off cap a' b' dk wr hA.here hab (by rw [hds]; exact hb) (by rw [hds]; exact hsz)
      rw [hds] at hins
      have hO2 := (pdq_small (lt := ltInt) (d := dk) (limit := lim) (wb := wb) (wp := wp) h12).symm.trans hO
      have HO := Aside0.mk (And.intro hins (And.intro hA hO2))
      clear hins hA hO2 hO hBel hds
      have h12i : (b' : Int) - (a' : Int) ≤ 12 := by omega
      go_wp2_with (go_at_call 24; refine HO.out.1.mono ?_; rintro e w2 ⟨rfl, hA2⟩; have H2 := Aside0.mk (HO.out.2.1.then hA2); clear hA2)
      all_goals (first | go_ret | go_end0 | refine bodyPost_ret (results_none rfl _ _ _) rfl ?_)
      have hA := H2.out
      rw [HO.out.2.2] at hA
      exact ⟨rfl, hA⟩
    · have h12i : ¬ (b' : Int) - (a' : Int) ≤ 12 := by omega
      by_cases hl0 : lim = 0
      · subst hl0
        have hins := heap16 blk off cap a' b' dk wr hA.here hab (by rw [hds]; exact hb) (by rw [hds]; exact hsz)
        rw [hds] at hins
        have hO2 := (pdq_heap (lt := ltInt) (d := dk) (wb := wb) (wp := wp) h12 rfl).symm.trans hO
        have HO := Aside0.mk (And.intro hins (And.intro hA hO2))
        clear hins hA hO2 hO hBel hds
        go_wp2_with (go_at_call 25; refine HO.out.1.mono ?_; rintro e w2 ⟨rfl, hA2⟩; have H2 := Aside0.mk (HO.out.2.1.then hA2); clear hA2)
        all_goals (first | go_ret | go_end0 | refine bodyPost_ret (results_none rfl _ _ _) rfl ?_)
        have hA := H2.out
        rw [HO.out.2.2] at hA
        exact ⟨rfl, hA⟩
      · have hl0i : ¬ (lim : Int) = 0 := by omega
        have hl0b : ((lim : Int) == 0) = false := by rw [beq_eq_false_iff_ne]; exact hl0i
        have F := rd_facts (lt := ltInt) (d := dk) (limit := lim) (wb := wb) (wp := wp) swo_ltInt partialInsertionSort_holds reverseRange_holds (show a' < b' by omega) (by rw [hds]; exact hb) hBel
        obtain ⟨R, hR⟩ : ∃ R, rd ltInt dk a' b' lim wb wp = R := ⟨_, rfl⟩
        have p_done := pdq_done (lt := ltInt) (d := dk) (limit := lim) (wb := wb) (wp := wp) h12 hl0
        have p_eq := pdq_eq (lt := ltInt) (d := dk) (limit := lim) (wb := wb) (wp := wp) h12 hl0
        have p_left := pdq_left (lt := ltInt) (d := dk) (limit := lim) (wb := wb) (wp := wp) h12 hl0
        have p_right := pdq_right (lt := ltInt) (d := dk) (limit := lim) (wb := wb) (wp := wp) h12 hl0
        have f_b : (wb = false → R.d1 = breakPatterns dk a' b' ∧ R.lim = lim - 1) ∧ (wb = true → R.d1 = dk ∧ R.lim = lim) := by
          rw [← hR]
          exact ⟨fun h => by subst h; exact rd_false, fun h => by subst h; exact rd_true⟩
        have f_c : R.c = choosePivot ltInt R.d1 a' b' := by rw [← hR]; exact rd_c
        have f_n : R.c.2 ≠ .decreasing → R.d2 = R.d1 ∧ R.pivot = R.c.1 ∧ R.hint = R.c.2 := by rw [← hR]; exact rd_not
        have f_y : (wb && wp && decide (R.hint = .increasing)) = true → R.pi = partialInsertionSort ltInt R.d2 a' b' := by rw [← hR]; exact rd_pi_yes
        have f_o : (wb && wp && decide (R.hint = .increasing)) = false → R.pi = (R.d2, false) := by rw [← hR]; exact rd_pi_no
        have f_l : R.lim ≤ lim := by rw [← hR]; exact rd_lim_le
        rw [hR] at F p_done p_eq p_left p_right
        obtain ⟨F1, _, F3, F4, _, F6, F7, F8⟩ := F
        rw [hds] at F1 F4 F7
        have HA0 := Aside0.mk (And.intro hA hds)
        have HP := Aside0.mk (And.intro p_done (And.intro p_eq (And.intro p_left (And.intro p_right hO))))
        have HF := Aside0.mk (And.intro f_b (And.intro f_c (And.intro f_n (And.intro f_y (And.intro f_o f_l)))))
        have HS := Aside0.mk (And.intro F1 (And.intro F3 (And.intro F4 (And.intro F6 (And.intro F7 F8)))))
        clear hA hBel hO hds hR p_done p_eq p_left p_right f_b f_c f_n f_y f_o F1 F3 F4 F6 F7 F8
        go_upto_if 35 with fail
        go_cut [3] from 19 to 133 (fun x3 wx => x3 = .int .i64 (R.lim : Int) ∧ AtB w blk off d R.d1 wx)
        case first =>
          cases wb
          · have hbk := break16 blk off cap a' b' dk wr HA0.out.1.here (by have h1 := HH.out.1.lt; have h2 := HA0.out.1.ge; omega) hab (by rw [HA0.out.2]; exact hb) (by omega) (by rw [HA0.out.2]; exact hsz)
            rw [HA0.out.2] at hbk
            have HB := Aside0.mk hbk
            clear hbk
            have hl1 : (lim : Int) - 1 = ((lim - 1 : Nat) : Int) := by omega
            go_wp2_with (go_at_call 26; refine HB.out.mono ?_; rintro e w2 ⟨rfl, hA2⟩; have H2 := Aside0.mk (HA0.out.1.thenB hA2); clear hA2)
            go_meet
            have h := HF.out.1.1 (by first | rfl | trivial)
            have hA := H2.out
            rw [h.1, h.2]
            exact ⟨by congr 1, hA⟩
          · go_wp2_with fail
            go_meet
            have h := HF.out.1.2 (by first | rfl | trivial)
            rw [h.1, h.2]
            exact ⟨rfl, HA0.out.1⟩
        case rest =>
          obtain ⟨rfl, hA1⟩ := hcut
          have hch := choose16 blk off cap a' b' R.d1 wc hA1.here (by have h1 := HH.out.1.lt; have h2 := hA1.ge; omega) (by rw [HS.out.1]; exact hb) (by omega) (by omega) (by rw [HS.out.1]; exact hsz)
          rw [HS.out.1, ← HF.out.2.1] at hch
          obtain ⟨hc, hhc⟩ : ∃ hc : Int, (if R.c.2 = .increasing then (1 : Int) else 0) = hc := ⟨_, rfl⟩
          rw [hhc] at hch
          have hc2 : (hc == 2) = false := by rw [beq_eq_false_iff_ne, ← hhc]; split <;> omega
          have hc2i : ¬ hc = 2 := by rw [← hhc]; split <;> omega
          have hc1 : (hc == 1) = decide (R.c.2 = .increasing) := by
            rw [← hhc]
            by_cases h : R.c.2 = .increasing
            · rw [if_pos h, decide_eq_true h]; rfl
            · rw [if_neg h, decide_eq_false h]; rfl
          have HC := Aside0.mk (And.intro hch (And.intro hA1 hc1))
          clear hch hA1 hhc hc1
          go_upto_region 15 with (go_at_call 27; refine HC.out.1.mono ?_; rintro e w2 ⟨rfl, hB2, hnd⟩; have H2 := Aside0.mk (And.intro (HC.out.2.1.below hB2) (HF.out.2.2.1 hnd)); clear hB2 hnd)
          have hh1 : (hc == 1) = decide (R.hint = .increasing) := by rw [H2.out.2.2.2]; exact HC.out.2.2
          go_cut [12, 68] from 19 to 133 (fun x12 x68 wx => x12 = .int .i64 hc ∧ x68 = .bool (wb && wp && decide (R.hint = .increasing)) ∧ wx = w2)
          case first =>
            by_cases hinc : R.hint = .increasing
            · have hcc : (hc == 1) = true := by rw [hh1]; exact decide_eq_true hinc
              have hcc2 : hc = 1 := by simpa using hcc
              subst hcc2
              cases wb <;> cases wp
              all_goals go_wp2_with fail
              all_goals go_meet
              all_goals exact ⟨rfl, by simp [hinc], rfl⟩
            · have hcc : (hc == 1) = false := by rw [hh1]; exact decide_eq_false hinc
              have hcc2 : ¬ hc = 1 := by simpa using hcc
              cases wb <;> cases wp
              all_goals go_wp2_with fail
              all_goals go_meet
              all_goals exact ⟨rfl, by simp [hinc], rfl⟩
          case rest =>
            obtain ⟨rfl, rfl, rfl⟩ := hcut
            go_upto_if 68 with fail
            go_cut [12] from 19 to 133 (fun x12 wx => x12 = .int .i64 hc ∧ AtB w blk off d R.pi.1 wx ∧ R.pi.2 = false)
            case first =>
              cases hB : (wb && wp && decide (R.hint = .increasing))
              · have hpi := HF.out.2.2.2.2.1 hB
                have HPI := Aside0.mk hpi
                clear hpi
                go_wp2_with fail
                go_meet
                refine ⟨rfl, ?_, ?_⟩
                · rw [HPI.out]
                  show AtB w blk off d R.d2 _
                  rw [H2.out.2.1]
                  exact H2.out.1
                · rw [HPI.out]
              · have hpi := HF.out.2.2.2.1 hB
                rw [H2.out.2.1] at hpi
                have hp16 := pi16 blk off cap a' b' R.d1 wc H2.out.1.here (by omega) (by rw [HS.out.1]; exact hb) (by omega) (by rw [HS.out.1]; exact hsz)
                rw [HS.out.1, ← hpi] at hp16
                have HPI := Aside0.mk hp16
                clear hpi hp16
                cases hp2 : R.pi.2
                · go_wp2_with (go_at_call 29; refine HPI.out.mono ?_; rintro e w3 ⟨rfl, hA3⟩; try rw [hp2]; have H3 := Aside0.mk (H2.out.1.then hA3); clear hA3)
                  all_goals go_meet
                  all_goals exact ⟨rfl, H3.out, by first | rfl | exact hp2⟩
                · go_wp2_with (go_at_call 29; refine HPI.out.mono ?_; rintro e w3 ⟨rfl, hA3⟩; try rw [hp2]; have H3 := Aside0.mk (H2.out.1.then hA3); clear hA3)
                  all_goals (first | go_ret | go_end0 | refine bodyPost_ret (results_none rfl _ _ _) rfl ?_)
                  all_goals (have hA := H3.out; have hr := (HP.out.1 hp2).symm.trans HP.out.2.2.2.2; rw [hr] at hA; exact ⟨rfl, hA⟩)
            case rest =>
              obtain ⟨rfl, hA3, hp2⟩ := hcut
              obtain ⟨G, hG⟩ : ∃ G : Nat → Int, ∀ t, G t = R.pi.1[t]! := ⟨fun t => R.pi.1[t]!, fun _ => rfl⟩
              have hcw : ∀ t, t < d.size → wc.cell? ⟨blk, off + t, none⟩ = some (.int .u16 (G t)) := fun t ht => by rw [hG]; exact (hA3.here t (by rw [hA3.size]; exact ht)).1
              have hfw : ∀ t, t < d.size → wc.frozen? ⟨blk, off + t, none⟩ = false := fun t ht => (hA3.here t (by rw [hA3.size]; exact ht)).2
              have hpv1 : R.c.1 < b' := by have := HS.out.2.1; omega
              have hpvd : R.c.1 < d.size := by omega
              obtain ⟨cnd, hcnd⟩ : ∃ cnd, (decide (a' > 0) && !ltInt R.pi.1[a' - 1]! R.pi.1[R.pivot]!) = cnd := ⟨_, rfl⟩
              have hcnd2 : (decide (a' > 0) && !ltInt (G (a' - 1)) (G R.c.1)) = cnd := by rw [hG, hG, ← H2.out.2.2.1]; exact hcnd
              have HCN := Aside0.mk (And.intro hcnd (And.intro hcnd2 hG))
              clear hcnd hcnd2 hG
              go_upto_region 17 with fail
              go_cut [12, 87] from 19 to 133 (fun x12 x87 wx => x12 = .int .i64 hc ∧ x87 = .bool cnd ∧ ∃ q, wx = wc.drewN q)
              case first =>
                have hcnd := HCN.out.2.1
                by_cases h0 : 0 < a'
                · have h0i : (0 : Int) < (a' : Int) := by omega
                  have h0b : a' - 1 < d.size := by omega
                  have eap : (a' : Int) - 1 = ((a' - 1 : Nat) : Int) := by omega
                  rw [decide_eq_true h0, Bool.true_and] at hcnd
                  cases hl : ltInt (G (a' - 1)) (G R.c.1)
                  · rw [hl] at hcnd
                    subst hcnd
                    go_wp2
                    go_quiet (first | (go_at_call 30; refine Calls.quiet_of_same (less16 _ _ _)) | (go_at_call 30; exact (less16 _ _ _).mono (fun _ _ h => ⟨h.1, _, h.2⟩)))
                    go_wp2_with fail
                    try rw [hl]
                    go_meet
                    exact ⟨rfl, rfl, _, rfl⟩
                  · rw [hl] at hcnd
                    subst hcnd
                    go_wp2
                    go_quiet (first | (go_at_call 30; refine Calls.quiet_of_same (less16 _ _ _)) | (go_at_call 30; exact (less16 _ _ _).mono (fun _ _ h => ⟨h.1, _, h.2⟩)))
                    go_wp2_with fail
                    try rw [hl]
                    go_meet
                    exact ⟨rfl, rfl, _, rfl⟩
                · have h0i : ¬ (0 : Int) < (a' : Int) := by omega
                  rw [decide_eq_false h0, Bool.false_and] at hcnd
                  subst hcnd
                  go_wp2
                  go_quiet (first | (go_at_call 30; refine Calls.quiet_of_same (less16 _ _ _)) | (go_at_call 30; exact (less16 _ _ _).mono (fun _ _ h => ⟨h.1, _, h.2⟩)))
                  go_wp2_with fail
                  go_meet
                  exact ⟨rfl, rfl, _, rfl⟩
              case rest =>
                obtain ⟨rfl, rfl, nq, rfl⟩ := hcut
                cases cnd
                · have hcnd := HCN.out.1
                  obtain ⟨⟨mid, ap, d4⟩, hx⟩ : ∃ r, partition ltInt R.pi.1 a' b' R.pivot = r := ⟨_, rfl⟩
                  have hrp := round_part swo_ltInt (partition_holds ltInt) HS.out.2.2.2.1.1 HS.out.2.2.2.1.2 (by rw [HS.out.2.2.2.2.1]; exact hb) HS.out.2.2.2.2.2 hx
                  rw [HS.out.2.2.2.2.1] at hrp
                  have hpt := part16 blk off cap a' b' R.pivot R.pi.1 (wc.drewN nq) (hA3.drewN nq).here HS.out.2.2.2.1.1 HS.out.2.2.2.1.2 (by rw [HS.out.2.2.2.2.1]; exact hb) (by rw [HS.out.2.2.2.2.1]; exact hsz)
                  rw [HS.out.2.2.2.2.1, hx, H2.out.2.2.1] at hpt
                  simp only at hpt
                  have hm1 := hrp.1
                  have hm2 := hrp.2.1
                  have HPT := Aside0.mk hrp
                  have HX := Aside0.mk hpt
                  have hx := Aside0.mk hx
                  have HA3 := Aside0.mk hA3
                  clear hrp hpt hA3 hcnd
                  obtain ⟨lf, hlf⟩ : ∃ lf, mid - a' = lf := ⟨_, rfl⟩
                  obtain ⟨rt, hrt⟩ : ∃ rt, b' - mid = rt := ⟨_, rfl⟩
                  obtain ⟨thr, hthr⟩ : ∃ thr, (b' - a') / 8 = thr := ⟨_, rfl⟩
                  have e_l : (mid : Int) - (a' : Int) = (lf : Int) := by omega
                  have e_r : (b' : Int) - (mid : Int) = (rt : Int) := by omega
                  have e_t : ((b' : Int) - (a' : Int)).tdiv 8 = (thr : Int) := by rw [Int.tdiv_eq_ediv_of_nonneg (by omega)]; omega
                  by_cases hlt : mid - a' < b' - mid
                  · have hlti : (lf : Int) < (rt : Int) := by omega
                    by_cases hbq : thr ≤ lf
                    · have hbqi : (thr : Int) ≤ (lf : Int) := by omega
                      have hsz4 : d4.size = d.size := HPT.out.2.2.1
                      have hso := pdq_sorts ltInt swo_ltInt d4 a' mid R.lim true true (by omega) (by rw [hsz4]; omega) HPT.out.2.2.2.1
                      have hB5 := (HPT.out.2.2.2.2.2.1 _ hso.1 hso.2).1
                      have hq : pdq ltInt (pdq ltInt d4 a' mid R.lim true true) (mid + 1) b' R.lim true ap = pdq ltInt d a b limit true true := by
                        have h := HP.out.2.2.1 hp2 HCN.out.1 (by rw [hx.out]; exact ⟨HPT.out.1, HPT.out.2.1⟩) (by rw [hx.out]; exact hlt)
                        rw [hx.out] at h
                        simp only at h
                        rw [show decide (mid - a' ≥ (b' - a') / 8) = true from decide_eq_true (by omega)] at h
                        exact h.symm.trans HP.out.2.2.2.2
                      have hih := fun W (hW : AtB w blk off d d4 W) => HH.out.2.1 (mid - a') (by omega) blk off cap a' mid R.lim d4 W rfl hW.here (by have h1 := HH.out.1.lt; have h2 := hW.ge; omega) (by omega) (by rw [hsz4]; omega) (by omega) (by rw [hsz4]; exact hsz) (by have := HF.out.2.2.2.2.2; omega) HPT.out.2.2.2.1
                      rw [hsz4] at hih
                      have HQ := Aside0.mk hq
                      have HIH := Aside0.mk (And.intro hih hB5)
                      clear hso hB5 hq hih
                      go_wp2_with (first
                        | (go_at_call 32; refine HX.out.mono ?_; rintro e w4 ⟨rfl, hA4⟩; have H4 := Aside0.mk ((HA3.out.drewN nq).then hA4); clear hA4)
                        | (go_at_call 21; refine (HIH.out.1 _ H4.out).mono ?_; rintro e w5 ⟨rfl, hA5⟩; have H5 := Aside0.mk (And.intro (H4.out.thenB hA5) HIH.out.2); clear hA5))
                      exact ⟨⟨mid + 1, b', R.lim, true, ap, _, by first | rfl | go_num, rfl, rfl, rfl, rfl, by omega, hb, by omega, by omega, H5.out.1, H5.out.2, HQ.out⟩, by simp only [intOf]; omega⟩
                    · have hbqi : ¬ (thr : Int) ≤ (lf : Int) := by omega
                      have hsz4 : d4.size = d.size := HPT.out.2.2.1
                      have hso := pdq_sorts ltInt swo_ltInt d4 a' mid R.lim true true (by omega) (by rw [hsz4]; omega) HPT.out.2.2.2.1
                      have hB5 := (HPT.out.2.2.2.2.2.1 _ hso.1 hso.2).1
                      have hq : pdq ltInt (pdq ltInt d4 a' mid R.lim true true) (mid + 1) b' R.lim false ap = pdq ltInt d a b limit true true := by
                        have h := HP.out.2.2.1 hp2 HCN.out.1 (by rw [hx.out]; exact ⟨HPT.out.1, HPT.out.2.1⟩) (by rw [hx.out]; exact hlt)
                        rw [hx.out] at h
                        simp only at h
                        rw [show decide (mid - a' ≥ (b' - a') / 8) = false from decide_eq_false (by omega)] at h
                        exact h.symm.trans HP.out.2.2.2.2
                      have hih := fun W (hW : AtB w blk off d d4 W) => HH.out.2.1 (mid - a') (by omega) blk off cap a' mid R.lim d4 W rfl hW.here (by have h1 := HH.out.1.lt; have h2 := hW.ge; omega) (by omega) (by rw [hsz4]; omega) (by omega) (by rw [hsz4]; exact hsz) (by have := HF.out.2.2.2.2.2; omega) HPT.out.2.2.2.1
                      rw [hsz4] at hih
                      have HQ := Aside0.mk hq
                      have HIH := Aside0.mk (And.intro hih hB5)
                      clear hso hB5 hq hih
                      go_wp2_with (first
                        | (go_at_call 32; refine HX.out.mono ?_; rintro e w4 ⟨rfl, hA4⟩; have H4 := Aside0.mk ((HA3.out.drewN nq).then hA4); clear hA4)
                        | (go_at_call 21; refine (HIH.out.1 _ H4.out).mono ?_; rintro e w5 ⟨rfl, hA5⟩; have H5 := Aside0.mk (And.intro (H4.out.thenB hA5) HIH.out.2); clear hA5))
                      exact ⟨⟨mid + 1, b', R.lim, false, ap, _, by first | rfl | go_num, rfl, rfl, rfl, rfl, by omega, hb, by omega, by omega, H5.out.1, H5.out.2, HQ.out⟩, by simp only [intOf]; omega⟩
                  · have hlti : ¬ (lf : Int) < (rt : Int) := by omega
                    by_cases hbq : thr ≤ rt
                    · have hbqi : (thr : Int) ≤ (rt : Int) := by omega
                      have hsz4 : d4.size = d.size := HPT.out.2.2.1
                      have hso := pdq_sorts ltInt swo_ltInt d4 (mid + 1) b' R.lim true true (by omega) (by rw [hsz4]; omega) HPT.out.2.2.2.2.1
                      have hB5 := (HPT.out.2.2.2.2.2.2 _ hso.1 hso.2).1
                      have hq : pdq ltInt (pdq ltInt d4 (mid + 1) b' R.lim true true) a' mid R.lim true ap = pdq ltInt d a b limit true true := by
                        have h := HP.out.2.2.2.1 hp2 HCN.out.1 (by rw [hx.out]; exact ⟨HPT.out.1, HPT.out.2.1⟩) (by rw [hx.out]; exact hlt)
                        rw [hx.out] at h
                        simp only at h
                        rw [show decide (b' - mid ≥ (b' - a') / 8) = true from decide_eq_true (by omega)] at h
                        exact h.symm.trans HP.out.2.2.2.2
                      have hih := fun W (hW : AtB w blk off d d4 W) => HH.out.2.1 (b' - (mid + 1)) (by omega) blk off cap (mid + 1) b' R.lim d4 W rfl hW.here (by have h1 := HH.out.1.lt; have h2 := hW.ge; omega) (by omega) (by rw [hsz4]; omega) (by omega) (by rw [hsz4]; exact hsz) (by have := HF.out.2.2.2.2.2; omega) HPT.out.2.2.2.2.1
                      rw [hsz4] at hih
                      have HQ := Aside0.mk hq
                      have HIH := Aside0.mk (And.intro hih hB5)
                      clear hso hB5 hq hih
                      go_wp2_with (first
                        | (go_at_call 32; refine HX.out.mono ?_; rintro e w4 ⟨rfl, hA4⟩; have H4 := Aside0.mk ((HA3.out.drewN nq).then hA4); clear hA4)
                        | (go_at_call 21; refine (HIH.out.1 _ H4.out).mono ?_; rintro e w5 ⟨rfl, hA5⟩; have H5 := Aside0.mk (And.intro (H4.out.thenB hA5) HIH.out.2); clear hA5))
                      exact ⟨⟨a', mid, R.lim, true, ap, _, rfl, rfl, rfl, rfl, rfl, by omega, by omega, by omega, by omega, H5.out.1, H5.out.2, HQ.out⟩, by simp only [intOf]; omega⟩
                    · have hbqi : ¬ (thr : Int) ≤ (rt : Int) := by omega
                      have hsz4 : d4.size = d.size := HPT.out.2.2.1
                      have hso := pdq_sorts ltInt swo_ltInt d4 (mid + 1) b' R.lim true true (by omega) (by rw [hsz4]; omega) HPT.out.2.2.2.2.1
                      have hB5 := (HPT.out.2.2.2.2.2.2 _ hso.1 hso.2).1
                      have hq : pdq ltInt (pdq ltInt d4 (mid + 1) b' R.lim true true) a' mid R.lim false ap = pdq ltInt d a b limit true true := by
                        have h := HP.out.2.2.2.1 hp2 HCN.out.1 (by rw [hx.out]; exact ⟨HPT.out.1, HPT.out.2.1⟩) (by rw [hx.out]; exact hlt)
                        rw [hx.out] at h
                        simp only at h
                        rw [show decide (b' - mid ≥ (b' - a') / 8) = false from decide_eq_false (by omega)] at h
                        exact h.symm.trans HP.out.2.2.2.2
                      have hih := fun W (hW : AtB w blk off d d4 W) => HH.out.2.1 (b' - (mid + 1)) (by omega) blk off cap (mid + 1) b' R.lim d4 W rfl hW.here (by have h1 := HH.out.1.lt; have h2 := hW.ge; omega) (by omega) (by rw [hsz4]; omega) (by omega) (by rw [hsz4]; exact hsz) (by have := HF.out.2.2.2.2.2; omega) HPT.out.2.2.2.2.1
                      rw [hsz4] at hih
                      have HQ := Aside0.mk hq
                      have HIH := Aside0.mk (And.intro hih hB5)
                      clear hso hB5 hq hih
                      go_wp2_with (first
                        | (go_at_call 32; refine HX.out.mono ?_; rintro e w4 ⟨rfl, hA4⟩; have H4 := Aside0.mk ((HA3.out.drewN nq).then hA4); clear hA4)
                        | (go_at_call 21; refine (HIH.out.1 _ H4.out).mono ?_; rintro e w5 ⟨rfl, hA5⟩; have H5 := Aside0.mk (And.intro (H4.out.thenB hA5) HIH.out.2); clear hA5))
                      exact ⟨⟨a', mid, R.lim, false, ap, _, rfl, rfl, rfl, rfl, rfl, by omega, by omega, by omega, by omega, H5.out.1, H5.out.2, HQ.out⟩, by simp only [intOf]; omega⟩
                · have hcnd := HCN.out.1
                  have h0 : 0 < a' := by
                    rw [Bool.and_eq_true] at hcnd
                    exact of_decide_eq_true hcnd.1
                  have hnl : ltInt R.pi.1[a' - 1]! R.pi.1[R.pivot]! = false := by
                    rw [Bool.and_eq_true] at hcnd
                    simpa using hcnd.2
                  obtain ⟨⟨mid, d4⟩, hx⟩ : ∃ r, partitionEqual ltInt R.pi.1 a' b' R.pivot = r := ⟨_, rfl⟩
                  have hre := round_eq swo_ltInt (partitionEqual_holds ltInt) h0 HS.out.2.2.2.1.1 HS.out.2.2.2.1.2 (by rw [HS.out.2.2.2.2.1]; exact hb) HS.out.2.2.2.2.2 hnl hx
                  have hpe := HP.out.2.1 hp2 hcnd (by rw [hx]; exact ⟨hre.1, hre.2.1⟩)
                  rw [hx] at hpe
                  have hpq := partEq16 blk off cap a' b' R.pivot R.pi.1 (wc.drewN nq) (hA3.drewN nq).here HS.out.2.2.2.1.1 HS.out.2.2.2.1.2 (by rw [HS.out.2.2.2.2.1]; exact hb) (by rw [HS.out.2.2.2.2.1]; exact hsz)
                  rw [HS.out.2.2.2.2.1, hx, H2.out.2.2.1] at hpq
                  simp only at hpq hpe
                  have hm1 := hre.1
                  have hm2 := hre.2.1
                  have HX := Aside0.mk (And.intro hpq (And.intro hre.2.2.2.1 (hpe.symm.trans HP.out.2.2.2.2)))
                  have HA3 := Aside0.mk hA3
                  clear hpq hre hpe hx hnl hcnd hA3
                  go_wp2_with (go_at_call 31; refine HX.out.1.mono ?_; rintro e w4 ⟨rfl, hA4⟩; have H4 := Aside0.mk ((HA3.out.drewN nq).then hA4); clear hA4)
                  exact ⟨⟨mid, b', R.lim, wb, wp, d4, rfl, rfl, rfl, rfl, rfl, hm2, hb, by omega, by have := HF.out.2.2.2.2.2; omega, H4.out, HX.out.2.1, HX.out.2.2⟩, by simp only [intOf]; omega⟩
end Go.Proofs.Ytjiligngjlejmaa.Srt
