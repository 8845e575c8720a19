/- Contracts of the queue's methods, part g: each theorem says its own conditions. -/
import Derived.Test.YtfhfeelkjpcogaaFf
namespace Go.Proofs.Ytfhfeelkjpcogaa.Fifo
open Go.RowKit Go.Proofs.YtfhfeelkjpcogaaW.PrintWords Go.Proofs.YtfhfeelkjpcogaaW.PrintLast Go.Proofs.YtfhfeelkjpcogaaW.PrintMore Go.Proofs.Ytfhfeelkjpcogaa.Mem
attribute [local go_sem] max2_int min2_int max_two min_two max_three min_three max_four min_four   -- for this text's walks alone
set_option linter.unusedVariables false
set_option linter.unusedSimpArgs false

/-- What is sent: no more than twenty, each no longer than nine. -/
def sentL (ms : List (List Int)) : List (List Int) := (ms.take 20).map (·.take 9)

/-- Row i of a slice of rows. -/
theorem row_at {w : World} {A : Option Addr} {n : Nat} {ms : List (List Int)} (h : D.C w A n ms) (i : Nat) (hi : i < n) :
    ∃ ad Ai ci, A = some ad ∧ (ms.getD i []).length ≤ ci ∧ (Kd.int .u8).C w Ai (ms.getD i []).length (ms.getD i []) ∧ w.cell? (ad.add i) = some (.slice Ai (ms.getD i []).length ci) := by
  obtain ⟨ad, c, hA, hcl, hK, hcell⟩ := Kd.C_get h [] (i : Int) (by omega) (by omega)
  obtain ⟨Ai, ci, rfl, hle, hC⟩ := hK
  exact ⟨ad, Ai, ci, hA, hle, hC, by simpa [Kd.slice] using hcell 0 _ rfl⟩

/-- The head of a row. -/
theorem head_C {w : World} {A : Option Addr} {n m : Nat} {x : List Int} (h : (Kd.int .u8).C w A n x) (hm : m ≤ n) : (Kd.int .u8).C w A m (x.take m) := by
  obtain ⟨hl, hb, hr⟩ := h
  refine ⟨by rw [List.length_take]; omega, by omega, fun hp => ?_⟩
  obtain ⟨ad, hA, hc⟩ := hr (by omega)
  refine ⟨ad, hA, fun j p hj => hc j p ?_⟩
  rw [List.getElem?_take] at hj
  split at hj
  · exact hj
  · cases hj

/-- What holds at the head of round k: d are over, all polled. -/
def OrdRel (B g N k d : Nat) (ms : List (List Int)) (w wr : World) : Prop :=
  k ≤ 2 * N ∧ d ≤ N ∧ d ≤ k ∧ k ≤ d + N ∧ IsQ (fun j => B ≤ j) wr B g 64 (((sentL ms).take k).drop d) [] d ∧ Below B w wr

theorem sentL_len {ms : List (List Int)} {n N : Nat} (h : ms.length = n) (hN : N = min n 20) : (sentL ms).length = N := by
  simp [sentL]; omega

/-- Behind the deliver of round k. -/
def OrdMid (B g N k d : Nat) (ms : List (List Int)) (w wx : World) : Prop :=
  ∃ (d2 : Nat) (W2 : List (List Int)), IsQ (fun j => B ≤ j) wx B g 64 (((sentL ms).take (k + 1)).drop d2) W2 d2 ∧ Below B w wx ∧
    ((d2 = d ∧ W2 = [] ∧ (N ≤ k → N ≤ d)) ∨ (d2 = d + 1 ∧ d < N ∧ d ≤ k ∧ W2 = [(sentL ms).getD d []]))
theorem ord_head (ms : List (List Int)) (k d : Nat) (hd : d < (sentL ms).length) (hk : d ≤ k) :
    ((sentL ms).take (k + 1)).drop d = (sentL ms).getD d [] :: ((sentL ms).take (k + 1)).drop (d + 1) := by
  have hl : d < ((sentL ms).take (k + 1)).length := by rw [List.length_take]; omega
  rw [List.drop_eq_getElem_cons hl, List.getElem_take, List.getD_eq_getElem?_getD, List.getElem?_eq_getElem hd]
  rfl
theorem ord_none (ms : List (List Int)) (k d : Nat) (h : (sentL ms).length ≤ d ∨ k < d) : ((sentL ms).take (k + 1)).drop d = [] := by
  apply List.drop_eq_nil_of_le
  rw [List.length_take]
  omega
theorem ord_elem (ms : List (List Int)) (k m : Nat) (hk : k < (sentL ms).length) (hm : m = min (ms.getD k []).length 9) : (sentL ms).getD k [] = (ms.getD k []).take m := by
  have hk20 : k < ms.length ∧ k < 20 := by simp [sentL] at hk; omega
  have : (sentL ms).getD k [] = (ms.getD k []).take 9 := by simp [sentL, List.getD_eq_getElem?_getD, List.getElem?_eq_getElem hk20.1, hk20.2]
  rw [this, hm]
  rcases Nat.le_total (ms.getD k []).length 9 with h | h
  · rw [Nat.min_eq_left h, List.take_of_length_le (Nat.le_refl _), List.take_of_length_le h]
  · rw [Nat.min_eq_right h]
theorem ord_next (ms : List (List Int)) (k d m : Nat) (hk : k < (sentL ms).length) (hd : d ≤ k) (hm : m = min (ms.getD k []).length 9) :
    ((sentL ms).take k).drop d ++ [(ms.getD k []).take m] = ((sentL ms).take (k + 1)).drop d := by
  have hk20 : k < ms.length ∧ k < 20 := by simp [sentL] at hk; omega
  rw [List.take_succ_eq_append_getElem hk, List.drop_append_of_le_length (by rw [List.length_take]; omega)]
  congr 1
  have : (sentL ms)[k] = (ms.getD k []).take 9 := by simp [sentL, List.getD_eq_getElem?_getD, List.getElem?_eq_getElem hk20.1]
  rw [this, hm]
  congr 1
  rcases Nat.le_total (ms.getD k []).length 9 with h | h
  · rw [Nat.min_eq_left h, List.take_of_length_le (Nat.le_refl _), List.take_of_length_le h]
  · rw [Nat.min_eq_right h]
theorem ord_U1 (ms : List (List Int)) (k d : Nat) : (((sentL ms).take k).drop d).length ≤ 1000000 := by
  simp [sentL]; omega
theorem ord_U2 (ms : List (List Int)) (k d : Nat) (hd : d ≤ 20) : ((((sentL ms).take k).drop d).length : Int) + (d : Int) ≠ 64 := by
  simp [sentL]; omega

set_option maxHeartbeats 6400000 in
set_option maxRecDepth 100000 in
theorem orders_any (w : World) (A : Option Addr) (n c : Nat) (ms : List (List Int)) (A2 : Option Addr) (n2 c2 : Nat) (bs : List Bool) (hC : D.C w A n ms) (hB : Kd.bool.C w A2 n2 bs)
    (hn : n ≤ 140737488351232) (hn2 : n2 ≤ 140737488351232) :
    Calls Try.prog 5 #[.slice A n c, .slice A2 n2 c2] w fun e w' => e = .returned (.bool true) ∧ Below w.heap.size w w' := by
  have HC := Aside0.mk hC
  have HB := Aside0.mk hB
  clear hC hB
  obtain ⟨N, hN⟩ : ∃ N : Nat, N = min n 20 := ⟨_, rfl⟩
  have hmin : (if (20 : Int) < (n : Int) then (20 : Int) else (n : Int)) = (N : Int) := by split <;> omega
  have hN1 : N ≤ 20 := by omega
  have hN2 : N ≤ n := by omega
  have HN := Aside0.mk hN
  clear hN
  go_enter Try.func5, Try.ntmps5
  go_wp2_with fail
  refine (new_any 64 w (by omega) (by omega)).mono ?_
  rintro e w1 ⟨g, rfl, hI, hBl⟩
  have HI := Aside0.mk hI
  have HBl := Aside0.mk hBl
  clear hI hBl
  go_wp2_with fail
  refine (queues_any w1).mono ?_
  rintro e w2 ⟨rfl, hBl⟩
  have HI2 := Aside0.mk (HI.out.below hBl)
  have HB2 := Aside0.mk (HBl.out.trans (hBl.mono HBl.out.size))
  clear hBl
  go_wp2_with fail
  go_loopw [8, 9] (fun got i wr => ∃ k d : Nat, got = .int .i64 d ∧ i = .int .i64 k ∧ OrdRel w.heap.size g N k d ms w wr) (fun _ i _ => 2 * N - (intOf i).toNat)
  case atStart => exact ⟨0, 0, rfl, rfl, by omega, by omega, by omega, by omega, by simpa using HI2.out, HB2.out⟩
  case round =>
    obtain ⟨k, d, rfl, rfl, hR⟩ := hrel
    have hk : k ≤ 2 * N := hR.1
    have hd20 : d ≤ 20 := by have := hR.2.1; omega
    have hdk : d ≤ k := hR.2.2.1
    have hdN0 : d ≤ N := hR.2.1
    have hkd0 : k ≤ d + N := hR.2.2.2.1
    have HR := Aside0.mk hR
    have hkn : (2 : Int) * N ≤ 40 := by omega
    clear hR
    by_cases hlt : k < 2 * N
    · have hlt' : (k : Int) < 2 * (N : Int) := by omega
      go_upto_region 9 with fail
      go_cut [49] (fun s49 wx => s49 = .bool false ∧ IsQ (fun j => w.heap.size ≤ j) wx w.heap.size g 64 (((sentL ms).take (k + 1)).drop d) [] d ∧ Below w.heap.size w wx)
      case first =>
        by_cases hkN : k < N
        · have hkN' : (k : Int) < (N : Int) := by omega
          have hB := HR.out.2.2.2.2.2
          obtain ⟨ad, Ai, ci, rfl, hle, hCi, hcell⟩ := row_at HC.out k (by omega)
          have hcw := cell_later hB hcell
          obtain ⟨L, hL⟩ : ∃ L, (ms.getD k []).length = L := ⟨_, rfl⟩
          rw [hL] at hle hCi hcw hcell
          obtain ⟨m, hm⟩ : ∃ m : Nat, m = min L 9 := ⟨_, rfl⟩
          have hmin9 : (if (9 : Int) < (L : Int) then (9 : Int) else (L : Int)) = (m : Int) := by split <;> omega
          have hmL : m ≤ L := by omega
          have hm9 : m ≤ 9 := by omega
          have hk1 : (k : Int) < (n : Int) := by omega
          have hmc : (m : Int) ≤ (ci : Int) := by omega
          have HM := Aside0.mk hm
          have HCi := Aside0.mk hCi
          have HLe := Aside0.mk hL
          have HBw := Aside0.mk hB
          have HCE := Aside0.mk hcell
          clear hm hcell hCi hL hB
          go_region_held3 (fun w' => w'.cell? (ad.add k) = some (.slice Ai L ci)) (first | go_keep)
            (first
              | (go_at_call 13
                 refine (send_ok Ai m ci ((ms.getD k []).take m) (by omega) (Kd.C_below (head_C HCi.out hmL) (below_drew HBw.out)) (HR.out.2.2.2.2.1.below (below_drew (Below.refl _ _))) HBw.out.size (ord_U1 _ _ _) (by omega) (by omega) (ord_U2 _ _ _ (by have := HR.out; unfold OrdRel at this; omega))).mono ?_
                 rintro e wx ⟨rfl, hI, hCh⟩
                 have hw1 : Below w.heap.size w wx := (below_drew HBw.out).trans (hCh.below HBw.out.size (fun i hi => hi))
                 have hcx := cell_later hw1 HCE.out
                 have HIx := Aside0.mk hI
                 have HWx := Aside0.mk hw1
                 clear hI hCh hw1))
          go_wp2_with fail
          go_meet
          refine ⟨rfl, ?_, HWx.out⟩
          have hlen := sentL_len HC.out.1 HN.out
          have := HIx.out
          rw [ord_next ms k d m (by omega) hdk (by rw [HLe.out]; exact HM.out)] at this
          exact this.widen HBw.out.size
        · have hkN' : ¬ (k : Int) < (N : Int) := by omega
          have hkd : decide ((k : Int) < (N : Int)) = false := by simpa using hkN'
          go_quiet (fail)
          go_wp2_with fail
          go_meet
          have hlen := sentL_len HC.out.1 HN.out
          have hI := HR.out.2.2.2.2.1
          rw [show (sentL ms).take k = (sentL ms).take (k + 1) by rw [List.take_of_length_le (by omega), List.take_of_length_le (by omega)]] at hI
          exact ⟨rfl, hI.drewN _, pw_below_drewN HR.out.2.2.2.2.2 _⟩
      case rest =>
        obtain ⟨rfl, hIc, hBc⟩ := hcut
        have HIc := Aside0.mk hIc
        have HBc := Aside0.mk hBc
        clear hIc hBc HR
        go_upto_region 11 with fail
        go_cut [64] (fun s64 wx => wx = wc ∧ ∃ b : Bool, s64 = .bool b ∧ (N ≤ k → b = true))
        case first =>
          by_cases hkN : (N : Int) ≤ (k : Int)
          · have hkd : decide ((N : Int) ≤ (k : Int)) = true := by simpa using hkN
            go_wp2_with fail
            go_meet
            exact ⟨rfl, true, rfl, fun _ => rfl⟩
          · have hkd : decide ((N : Int) ≤ (k : Int)) = false := by simpa using hkN
            by_cases hk2 : (k : Int) < (n2 : Int)
            · obtain ⟨ad2, cc, rfl, hcl, hK, hcell⟩ := Kd.C_get HB.out false (k : Int) (by omega) hk2
              have hcc : cc = [.bool (bs.getD k false)] := by simpa [Kd.bool, Kd.scalar] using hK
              subst hcc
              have hcellw : wc.cell? (ad2.add k) = some (.bool (bs.getD k false)) := cell_later HBc.out (by simpa [Kd.bool, Kd.scalar] using hcell 0 _ rfl)
              have hkd2 : decide ((k : Int) < (n2 : Int)) = true := by simpa using hk2
              clear hK hcell hcl
              go_wp2_with fail
              go_meet
              exact ⟨rfl, _, rfl, fun h => by omega⟩
            · have hkd2 : decide ((k : Int) < (n2 : Int)) = false := by simpa using hk2
              go_wp2_with fail
              go_meet
              exact ⟨rfl, false, rfl, fun h => by omega⟩
        case rest =>
          obtain ⟨rfl, b, rfl, hb⟩ := hcut
          go_upto_if 64 with fail
          go_cut [] (fun wx => OrdMid w.heap.size g N k d ms w wx)
          case first =>
            cases b with
            | false =>
              go_wp2_with fail
              go_meet
              exact ⟨d, [], HIc.out, HBc.out, Or.inl ⟨rfl, rfl, fun h => by cases hb h⟩⟩
            | true =>
              have hlen := Aside0.mk (sentL_len HC.out.1 HN.out)
              by_cases hdN : d < N
              · have hx := ord_head ms k d (by rw [hlen.out]; exact hdN) hdk
                have HIx := HIc.out
                rw [hx] at HIx
                have HIy := Aside0.mk HIx
                have HX := Aside0.mk hx
                clear HIx hx
                go_wp2_with fail
                refine (deliver_some HIy.out HBc.out.size (by omega) (by omega) (by simp)).mono ?_
                rintro e wx ⟨rfl, hI, hCh⟩
                have HIz := Aside0.mk hI
                have HCz := Aside0.mk hCh
                clear hI hCh
                go_wp2_with fail
                go_meet
                exact ⟨d + 1, _, HIz.out.widen HBc.out.size, HBc.out.trans (HCz.out.below HBc.out.size (fun i hi => hi)), Or.inr ⟨rfl, hdN, hdk, rfl⟩⟩
              · have hx := ord_none ms k d (Or.inl (by rw [hlen.out]; omega))
                have HIx := HIc.out
                rw [hx] at HIx
                have HIy := Aside0.mk HIx
                have HX := Aside0.mk hx
                clear HIx hx
                go_wp2_with fail
                refine (deliver_none HIy.out).mono ?_
                rintro e wx ⟨rfl, rfl⟩
                go_wp2_with fail
                go_meet
                exact ⟨d, [], HIc.out, HBc.out, Or.inl ⟨rfl, rfl, fun h => by omega⟩⟩
          case rest =>
            obtain ⟨d2, W2, hI, hBx, hor⟩ := hcut
            have HI3 := Aside0.mk hI
            have HB3 := Aside0.mk hBx
            clear hI hBx HIc HBc
            rcases hor with ⟨hd2, rfl, hp⟩ | ⟨hd2, hdN, _, rfl⟩
            · obtain rfl : d = d2 := hd2.symm
              go_wp2_with fail
              refine (poll_none HI3.out).mono ?_
              rintro e wx ⟨rfl, rfl⟩
              go_wp2_with fail
              go_roundw
              case rel =>
                refine ⟨k + 1, d, rfl, by go_num, by omega, by omega, by omega, ?_, HI3.out, HB3.out⟩
                rcases Nat.lt_or_ge k N with h | h
                · omega
                · have := hp h; omega
              case measure => simp [intOf]; omega
            · subst hd2
              obtain ⟨x, hx⟩ : ∃ x, (sentL ms).getD d [] = x := ⟨_, rfl⟩
              have HI4 := HI3.out
              rw [hx] at HI4
              have HI5 := Aside0.mk HI4
              have HX := Aside0.mk hx
              clear HI4 hx
              go_wp2_with fail
              refine (poll_some HI5.out).mono ?_
              rintro e wx ⟨v, rfl, hI, hRv, hCh⟩
              obtain ⟨Av, cv, rfl, hlv, hCv⟩ := Kd.R_reads hRv
              have hgB : w.heap.size ≤ g := by obtain ⟨_, _, _, hg, _⟩ := HI3.out; exact hg
              have hBx := HB3.out.trans (hCh.below HB3.out.size (fun i hi => hi ▸ hgB))
              have hlen := sentL_len HC.out.1 HN.out
              have hdn : d < n := by omega
              obtain ⟨ad, Ai, ci, rfl, hle, hCi, hcell⟩ := row_at HC.out d hdn
              have hcw := cell_later hBx hcell
              obtain ⟨L, hL⟩ : ∃ L, (ms.getD d []).length = L := ⟨_, rfl⟩
              rw [hL] at hle hCi hcw
              obtain ⟨m, hm⟩ : ∃ m : Nat, m = min L 9 := ⟨_, rfl⟩
              have hmin9 : (if (9 : Int) < (L : Int) then (9 : Int) else (L : Int)) = (m : Int) := by split <;> omega
              have hmL : m ≤ L := by omega
              have hd1 : (d : Int) < (n : Int) := by omega
              have hdN1 : decide ((N : Int) ≤ (d : Int)) = false := by simp; omega
              have hmc : (m : Int) ≤ (ci : Int) := by omega
              have hxe : x = (ms.getD d []).take m := HX.out.symm.trans (ord_elem ms d m (by omega) (by rw [hL]; exact hm))
              have hlx : x.length = m := by rw [hxe, List.length_take, hL]; omega
              have hCi2 := head_C hCi hmL
              rw [← hxe] at hCi2
              clear hxe hm
              subst hlx
              have hcv := fun q => Kd.C_string (dst := 9) Try.underlying34 Try.underlying5 Try.underlying9 (c := cv) (Kd.C_below hCv (pw_below_drewN (Below.refl _ _) q))
              have hci := fun q => Kd.C_string (dst := 9) Try.underlying34 Try.underlying5 Try.underlying9 (c := ci) (Kd.C_below hCi2 (pw_below_drewN hBx q))
              have HIx := Aside0.mk hI
              have HBx := Aside0.mk hBx
              clear hI hBx hRv hCh hCv hCi hCi2 hcell hlen hle hL
              go_wp2_with fail
              go_quiet (fail)
              go_wp2_with fail
              go_roundw
              case rel =>
                refine ⟨k + 1, d + 1, by go_num, by go_num, by omega, by omega, by omega, by omega, HIx.out.drewN _, pw_below_drewN HBx.out _⟩
              case measure => simp [intOf]; omega
    · have hlt' : ¬ (k : Int) < 2 * (N : Int) := by omega
      obtain rfl : d = N := by omega
      have hU : ((sentL ms).take k).drop d = [] := by
        have hlen := sentL_len HC.out.1 HN.out
        apply List.drop_eq_nil_of_le
        rw [List.length_take]
        omega
      have hI := HR.out.2.2.2.2.1
      rw [hU] at hI
      have HI3 := Aside0.mk hI
      have HB3 := Aside0.mk HR.out.2.2.2.2.2
      clear hI hU HR
      go_wp2_with fail
      refine (under_any HI3.out).mono ?_
      rintro e wx ⟨rfl, rfl⟩
      go_wp2_with fail
      refine (kept_any HI3.out (by simp) (by omega) (by omega)).mono ?_
      rintro e wx ⟨rfl, nq, hw⟩
      have HI4 := Aside0.mk (show IsQ (fun j => w.heap.size ≤ j) wx w.heap.size g 64 [] [] d from hw ▸ HI3.out.drewN nq)
      have HB4 := Aside0.mk (show Below w.heap.size w wx from hw ▸ pw_below_drewN HB3.out nq)
      clear hw
      go_wp2_with fail
      refine (ack_any (d : Int) HI4.out (by omega) (by omega)).mono ?_
      rintro e wy ⟨rfl, hI, hCh⟩
      have hgB : w.heap.size ≤ g := by obtain ⟨_, _, _, hg, _⟩ := HI4.out; exact hg
      have HB5 := Aside0.mk (HB4.out.trans (hCh.below HB4.out.size (fun i hi => hi ▸ hgB)))
      have ha1 : ackR (d : Int) (d : Int) = 0 := by unfold ackR; rw [if_neg (by omega), if_neg (by omega)]
      have ha2 : ackD (d : Int) (d : Int) = 0 := by unfold ackD; rw [if_neg (by omega), if_neg (by omega)]; omega
      rw [ha2] at hI
      rw [ha1]
      have HI5 := Aside0.mk hI
      clear hI hCh ha1 ha2
      go_wp2_with fail
      refine (kept_any HI5.out (by simp) (by omega) (by omega)).mono ?_
      rintro e wz ⟨rfl, nq, hw⟩
      have HB6 := Aside0.mk (show Below w.heap.size w wz from hw ▸ pw_below_drewN HB5.out nq)
      clear hw
      go_wp2_with fail
      go_ret
      exact ⟨rfl, HB6.out⟩

end Go.Proofs.Ytfhfeelkjpcogaa.Fifo
