/- The law HarqAlone: each theorem says its own conditions. -/
import Derived.Test.YtnejnnfjbhpigaaDoorCs
import Derived.Test.YtnejnnfjbhpigaaDoorCx
namespace Go.Proofs.YtnejnnfjbhpigaaDoor.Vit
open Go.RowKit Go.Proofs.YtnejnnfjbhpigaaDoorW.PrintWords Go.Proofs.YtnejnnfjbhpigaaDoorW.PrintLast Go.Proofs.YtnejnnfjbhpigaaDoorW.PrintMore Go.Proofs.YtnejnnfjbhpigaaDoor.Mem Go.Proofs.YtnejnnfjbhpigaaDoor.Crc
attribute [local go_sem] max2_int min2_int max_two min_two max_three min_three max_four min_four   -- for this text's walks alone
set_option linter.unusedVariables false
set_option linter.unusedSimpArgs false

open Go.Proofs.YtnejnnfjbhpigaaDoor.Chk
set_option maxHeartbeats 3200000 in
set_option maxRecDepth 100000 in
theorem alone_few (A Ar : Option Addr) (n c R cr : Nat) (m : List Nat) (row : List HRow) (v : Int) (w : World) (hn : m.length = n) (hC : (Kd.int .u8).C w A n (ints m)) (hb : ∀ x ∈ m, x < 256) (hc : n ≤ c) (hl : n ≤ 140737488355328) (h4 : n ≤ 8) (hR : HC5.C w Ar R row) (hRl : R ≤ 140737488355328) (hRc : R ≤ cr) (ht : Taps w) :
    Calls Tryd.prog 3 #[.slice A n c, .slice Ar R cr, .int .i64 v] w fun e w' => e = .returned (.bool true) ∧ Below w.heap.size w w' := by
  have h4i : (n : Int) ≤ 8 := by omega
  obtain ⟨k, hk, hk4⟩ := mod_in v 4 (by omega) (by omega)
  simp only [Int.cast_ofNat_Int, Int.ofNat_eq_natCast] at hk
  have hnew := HNew_any n (by omega) w
  have HC := Aside0.mk (And.intro hnew (And.intro hC (And.intro ht (And.intro hb (And.intro hn hR)))))
  clear hnew hC ht hb hn hR
  go_enter Tryd.func3, Tryd.ntmps3
  go_wp2_with fail
  refine HC.out.1.mono ?_
  rintro e w1 ⟨rfl, hI1, hB1⟩
  have hrd := reads_any w1 (HC.out.2.2.1.below hB1)
  have hP1 := Proc.new HC.out.2.2.1 hI1 hB1
  have H1 := Aside0.mk (And.intro hB1 (And.intro hP1 hrd))
  clear hB1 hrd hI1 hP1
  go_wp2_with fail
  refine H1.out.2.2.mono ?_
  rintro e w2 ⟨rfl, hB2⟩
  have H2 := Aside0.mk (And.intro (H1.out.1.trans (hB2.mono H1.out.1.size)) (H1.out.2.1.below hB2))
  clear hB2
  go_wp2_with fail
  go_loopw [9] (fun x wv => ∃ i b sb came : Nat, ∃ xs cs, x = .int .i64 i ∧ i ≤ 6 ∧ Below w.heap.size w wv ∧ Proc w.heap.size wv w.heap.size b sb n xs cs came false) (fun x _ => 6 - (intOf x).toNat)
  case atStart => exact ⟨0, _, _, _, _, _, rfl, Nat.zero_le _, H2.out.1, H2.out.2⟩
  case round =>
    obtain ⟨i, b, sb, came, xs, cs, rfl, hi, hB, hP⟩ := hrel
    by_cases hiR : i < R
    · have hiRi : (i : Int) < (R : Int) := by omega
      by_cases hi6 : i < 6
      · have hi6i : (i : Int) < 6 := by omega
        have d1 : decide ((i : Int) < 6) = true := decide_eq_true hi6i
        have d2 : decide (i < 6) = true := decide_eq_true hi6
        obtain ⟨ad, r, vv, at_, raw, nn, Aa, ca, Aw, cw, hA, hrow, hle, hCa, hle2, hCw, e0, e1, e2, e3, e4⟩ := hcame_at (Kd.C_below HC.out.2.2.2.2.2 hB) i hiR
        cases hA
        obtain ⟨k2, hk2, hk24⟩ := mod_in vv 4 (by omega) (by omega)
        simp only [Int.cast_ofNat_Int, Int.ofNat_eq_natCast] at hk2
        have HE := Aside0.mk (And.intro hle (And.intro hCa (And.intro hle2 (And.intro hCw (And.intro hB hP)))))
        clear hle hCa hle2 hCw hB hP hrow
        go_wp2_with fail
        refine (body_any m HC.out.2.2.2.1 n HC.out.2.2.2.2.1 (by omega) k2 hk24 r vv nn at_ Aa Aw A at_.length ca raw.length cw c rfl HE.out.1 (Kd.C_max HE.out.2.1) wr HE.out.2.1 (Kd.C_below HC.out.2.1 HE.out.2.2.2.2.1) (by omega)).mono ?_
        rintro e w6 ⟨u6, rfl, hR6, hB6⟩
        obtain ⟨L, hL⟩ : ∃ L, 8 * (n + 4) + 6 = L := ⟨_, rfl⟩
        obtain ⟨A6, c6, rfl, hc6, hC6⟩ := Kd.R_reads hR6
        have hl6 : (ints (bodL m at_ k2)).length = L := by rw [ints_len, bodL_len, HC.out.2.2.2.2.1]; exact hL
        rw [hl6] at hc6 hC6 hR6 ⊢
        have hP6 := HE.out.2.2.2.2.2.below hB6
        have hof := Offer_all w.heap.size b sb n n came xs cs k2 hk24 (bodL m at_ k2) (bodL_bits m at_ k2) L hL (by rw [← ints_len]; exact hl6) A6 c6 hc6 w6 hP6.is (by omega) hP6.in_ hC6 (row_apart hP6.is hR6) hP6.taps hP6.zero
        have HF := Aside0.mk (And.intro hof (And.intro hP6 (HE.out.2.2.2.2.1.trans (hB6.mono HE.out.2.2.2.2.1.size))))
        clear hof hP6 hR6 hC6 hc6 hB6 hl6
        go_wp2_with fail
        refine HF.out.1.mono ?_
        rintro e w7 ⟨u7, b7, sb7, rfl, hR7, hI7, hs7, hC7⟩
        have hP7 := HF.out.2.1.next (u := u7) (e := .returned u7) hI7 hs7 hC7
        have hB7 : Below w.heap.size w w7 := HF.out.2.1.keeps (Nat.le_refl _) hC7 HF.out.2.2 (Nat.le_refl _)
        generalize hr : hRes _ _ _ _ = r at hP7 hR7 ⊢
        generalize addv _ _ _ _ = X at hP7
        generalize bump _ _ = Y at hP7
        generalize offN _ _ _ + 1 = c1 at hP7
        clear hI7 hs7 hC7
        cases r with
        | some m1 =>
          have hlen := hRes_len hr
          obtain ⟨A7, c7, rfl, hc7, hC7⟩ := Kd.R_reads hR7
          have hl7 : (ints ((some m1).getD [])).length = n := by rw [ints_len]; exact hlen
          rw [hl7] at ⊢
          have HD := Aside0.mk (And.intro (Done_any w7 _ _ _ _ _ _ _ _ hP7.is) hB7)
          have he : hE (some m1) = 0 := rfl
          rw [he]
          clear hP7 hB7 hR7 hC7 hc7 hl7 hlen hr he
          go_wp2_with (go_at_call 12; refine HD.out.1.mono ?_; rintro e w8 ⟨rfl, rfl⟩)
          go_ret
          exact ⟨rfl, HD.out.2⟩
        | none =>
          have HD := Aside0.mk (And.intro hB7 hP7)
          have he : hE none = 12 := rfl
          rw [he]
          clear hP7 hB7 hR7 hr he
          go_wp2
          exact ⟨⟨i + 1, b7, sb7, c1, X, Y, by go_num, by omega, HD.out.1, HD.out.2⟩, by simp only [intOf]; omega⟩
      · have hi6i : ¬ (i : Int) < 6 := by omega
        have d1 : decide ((i : Int) < 6) = false := decide_eq_false hi6i
        have d2 : decide (i < 6) = false := decide_eq_false hi6
        have HE := Aside0.mk (And.intro hB hP)
        clear hB hP
        go_wp2_with fail
        refine (Version17_any m HC.out.2.2.2.1 A n c wr HC.out.2.2.2.2.1 (Kd.C_below HC.out.2.1 HE.out.1) (by omega) k hk4).mono ?_
        rintro e w6 ⟨u6, rfl, hR6, hB6⟩
        obtain ⟨L, hL⟩ : ∃ L, 8 * (n + 4) + 6 = L := ⟨_, rfl⟩
        obtain ⟨A6, c6, rfl, hc6, hC6⟩ := Kd.R_reads hR6
        have hl6 : (ints (verL m k)).length = L := by rw [ints_len, verL_len, HC.out.2.2.2.2.1]; exact hL
        rw [hl6] at hc6 hC6 hR6 ⊢
        have hP6 := HE.out.2.below hB6
        have hof := Offer_all w.heap.size b sb n n came xs cs k hk4 (verL m k) (verL_bits m k) L hL (by rw [← ints_len]; exact hl6) A6 c6 hc6 w6 hP6.is (by omega) hP6.in_ hC6 (row_apart hP6.is hR6) hP6.taps hP6.zero
        obtain ⟨r, hr, hrl⟩ := hRes_ver m HC.out.2.2.2.1 hk4 (addv (offX n n came xs) k (verL m k) (8 * (n + 4) + 6))
        rw [HC.out.2.2.2.2.1] at hr hrl
        unfold OffPost at hof
        rw [hr, show hE (some r) = 0 from rfl] at hof
        have HF := Aside0.mk (And.intro hof (And.intro hP6 (And.intro (HE.out.1.trans (hB6.mono HE.out.1.size)) hrl)))
        clear hof hP6 hR6 hC6 hc6 hB6 hl6 hr hrl
        go_wp2_with fail
        refine HF.out.1.mono ?_
        rintro e w7 ⟨u7, b7, sb7, rfl, hR7, hI7, hs7, hC7⟩
        have hB7 : Below w.heap.size w w7 := HF.out.2.1.keeps (Nat.le_refl _) hC7 HF.out.2.2.1 (Nat.le_refl _)
        obtain ⟨A7, c7, rfl, hc7, hC7'⟩ := Kd.R_reads hR7
        have hl7 : (ints ((some r).getD [])).length = n := by rw [ints_len]; exact HF.out.2.2.2
        rw [hl7]
        have HD := Aside0.mk (And.intro (Done_any w7 _ _ _ _ _ _ _ _ hI7) hB7)
        clear hB7 hR7 hI7 hs7 hC7 hC7' hc7 hl7
        go_wp2_with (go_at_call 12; refine HD.out.1.mono ?_; rintro e w8 ⟨rfl, rfl⟩)
        go_ret
        exact ⟨rfl, HD.out.2⟩
    · have hiRi : ¬ (i : Int) < (R : Int) := by omega
      have HE := Aside0.mk (And.intro hB hP)
      clear hB hP
      go_wp2_with fail
      refine (Version17_any m HC.out.2.2.2.1 A n c wr HC.out.2.2.2.2.1 (Kd.C_below HC.out.2.1 HE.out.1) (by omega) k hk4).mono ?_
      rintro e w6 ⟨u6, rfl, hR6, hB6⟩
      obtain ⟨L, hL⟩ : ∃ L, 8 * (n + 4) + 6 = L := ⟨_, rfl⟩
      obtain ⟨A6, c6, rfl, hc6, hC6⟩ := Kd.R_reads hR6
      have hl6 : (ints (verL m k)).length = L := by rw [ints_len, verL_len, HC.out.2.2.2.2.1]; exact hL
      rw [hl6] at hc6 hC6 hR6 ⊢
      have hP6 := HE.out.2.below hB6
      have hof := Offer_all w.heap.size b sb n n came xs cs k hk4 (verL m k) (verL_bits m k) L hL (by rw [← ints_len]; exact hl6) A6 c6 hc6 w6 hP6.is (by omega) hP6.in_ hC6 (row_apart hP6.is hR6) hP6.taps hP6.zero
      obtain ⟨r, hr, hrl⟩ := hRes_ver m HC.out.2.2.2.1 hk4 (addv (offX n n came xs) k (verL m k) (8 * (n + 4) + 6))
      rw [HC.out.2.2.2.2.1] at hr hrl
      unfold OffPost at hof
      rw [hr, show hE (some r) = 0 from rfl] at hof
      have HF := Aside0.mk (And.intro hof (And.intro hP6 (And.intro (HE.out.1.trans (hB6.mono HE.out.1.size)) hrl)))
      clear hof hP6 hR6 hC6 hc6 hB6 hl6 hr hrl
      go_wp2_with fail
      refine HF.out.1.mono ?_
      rintro e w7 ⟨u7, b7, sb7, rfl, hR7, hI7, hs7, hC7⟩
      have hB7 : Below w.heap.size w w7 := HF.out.2.1.keeps (Nat.le_refl _) hC7 HF.out.2.2.1 (Nat.le_refl _)
      obtain ⟨A7, c7, rfl, hc7, hC7'⟩ := Kd.R_reads hR7
      have hl7 : (ints ((some r).getD [])).length = n := by rw [ints_len]; exact HF.out.2.2.2
      rw [hl7]
      have HD := Aside0.mk (And.intro (Done_any w7 _ _ _ _ _ _ _ _ hI7) hB7)
      clear hB7 hR7 hI7 hs7 hC7 hC7' hc7 hl7
      go_wp2_with (go_at_call 12; refine HD.out.1.mono ?_; rintro e w8 ⟨rfl, rfl⟩)
      go_ret
      exact ⟨rfl, HD.out.2⟩
set_option maxHeartbeats 3200000 in
set_option maxRecDepth 100000 in
theorem alone_cut (A Ar : Option Addr) (n c R cr : Nat) (m : List Nat) (row : List HRow) (v : Int) (w : World) (hn : m.length = 8) (hC : (Kd.int .u8).C w A 8 (ints m)) (hb : ∀ x ∈ m, x < 256) (hc : n ≤ c) (hl : n ≤ 140737488355328) (h4 : 8 < n) (hR : HC5.C w Ar R row) (hRl : R ≤ 140737488355328) (hRc : R ≤ cr) (ht : Taps w) :
    Calls Tryd.prog 3 #[.slice A n c, .slice Ar R cr, .int .i64 v] w fun e w' => e = .returned (.bool true) ∧ Below w.heap.size w w' := by
  have h4i : (8 : Int) < (n : Int) := by omega
  have hm8 : max (8 : Int) 0 = 8 := rfl
  obtain ⟨k, hk, hk4⟩ := mod_in v 4 (by omega) (by omega)
  simp only [Int.cast_ofNat_Int, Int.ofNat_eq_natCast] at hk
  have hnew := HNew_any 8 (by omega) w
  have HC := Aside0.mk (And.intro hnew (And.intro hC (And.intro ht (And.intro hb (And.intro hn hR)))))
  clear hnew hC ht hb hn hR
  go_enter Tryd.func3, Tryd.ntmps3
  go_wp2_with fail
  refine HC.out.1.mono ?_
  rintro e w1 ⟨rfl, hI1, hB1⟩
  have hrd := reads_any w1 (HC.out.2.2.1.below hB1)
  have hP1 := Proc.new HC.out.2.2.1 hI1 hB1
  have H1 := Aside0.mk (And.intro hB1 (And.intro hP1 hrd))
  clear hB1 hrd hI1 hP1
  go_wp2_with fail
  refine H1.out.2.2.mono ?_
  rintro e w2 ⟨rfl, hB2⟩
  have H2 := Aside0.mk (And.intro (H1.out.1.trans (hB2.mono H1.out.1.size)) (H1.out.2.1.below hB2))
  clear hB2
  go_wp2_with fail
  go_loopw [9] (fun x wv => ∃ i b sb came : Nat, ∃ xs cs, x = .int .i64 i ∧ i ≤ 6 ∧ Below w.heap.size w wv ∧ Proc w.heap.size wv w.heap.size b sb 8 xs cs came false) (fun x _ => 6 - (intOf x).toNat)
  case atStart => exact ⟨0, _, _, _, _, _, rfl, Nat.zero_le _, H2.out.1, H2.out.2⟩
  case round =>
    obtain ⟨i, b, sb, came, xs, cs, rfl, hi, hB, hP⟩ := hrel
    by_cases hiR : i < R
    · have hiRi : (i : Int) < (R : Int) := by omega
      by_cases hi6 : i < 6
      · have hi6i : (i : Int) < 6 := by omega
        have d1 : decide ((i : Int) < 6) = true := decide_eq_true hi6i
        have d2 : decide (i < 6) = true := decide_eq_true hi6
        obtain ⟨ad, r, vv, at_, raw, nn, Aa, ca, Aw, cw, hA, hrow, hle, hCa, hle2, hCw, e0, e1, e2, e3, e4⟩ := hcame_at (Kd.C_below HC.out.2.2.2.2.2 hB) i hiR
        cases hA
        obtain ⟨k2, hk2, hk24⟩ := mod_in vv 4 (by omega) (by omega)
        simp only [Int.cast_ofNat_Int, Int.ofNat_eq_natCast] at hk2
        have HE := Aside0.mk (And.intro hle (And.intro hCa (And.intro hle2 (And.intro hCw (And.intro hB hP)))))
        clear hle hCa hle2 hCw hB hP hrow
        go_wp2_with fail
        refine (body_any m HC.out.2.2.2.1 8 HC.out.2.2.2.2.1 (by omega) k2 hk24 r vv nn at_ Aa Aw A at_.length ca raw.length cw c rfl HE.out.1 (Kd.C_max HE.out.2.1) wr HE.out.2.1 (Kd.C_below HC.out.2.1 HE.out.2.2.2.2.1) (by omega)).mono ?_
        rintro e w6 ⟨u6, rfl, hR6, hB6⟩
        obtain ⟨L, hL⟩ : ∃ L, 8 * (8 + 4) + 6 = L := ⟨_, rfl⟩
        obtain ⟨A6, c6, rfl, hc6, hC6⟩ := Kd.R_reads hR6
        have hl6 : (ints (bodL m at_ k2)).length = L := by rw [ints_len, bodL_len, HC.out.2.2.2.2.1]; exact hL
        rw [hl6] at hc6 hC6 hR6 ⊢
        have hP6 := HE.out.2.2.2.2.2.below hB6
        have hof := Offer_all w.heap.size b sb 8 8 came xs cs k2 hk24 (bodL m at_ k2) (bodL_bits m at_ k2) L hL (by rw [← ints_len]; exact hl6) A6 c6 hc6 w6 hP6.is (by omega) hP6.in_ hC6 (row_apart hP6.is hR6) hP6.taps hP6.zero
        have HF := Aside0.mk (And.intro hof (And.intro hP6 (HE.out.2.2.2.2.1.trans (hB6.mono HE.out.2.2.2.2.1.size))))
        clear hof hP6 hR6 hC6 hc6 hB6 hl6
        go_wp2_with fail
        refine HF.out.1.mono ?_
        rintro e w7 ⟨u7, b7, sb7, rfl, hR7, hI7, hs7, hC7⟩
        have hP7 := HF.out.2.1.next (u := u7) (e := .returned u7) hI7 hs7 hC7
        have hB7 : Below w.heap.size w w7 := HF.out.2.1.keeps (Nat.le_refl _) hC7 HF.out.2.2 (Nat.le_refl _)
        generalize hr : hRes _ _ _ _ = r at hP7 hR7 ⊢
        generalize addv _ _ _ _ = X at hP7
        generalize bump _ _ = Y at hP7
        generalize offN _ _ _ + 1 = c1 at hP7
        clear hI7 hs7 hC7
        cases r with
        | some m1 =>
          have hlen := hRes_len hr
          obtain ⟨A7, c7, rfl, hc7, hC7⟩ := Kd.R_reads hR7
          have hl7 : (ints ((some m1).getD [])).length = 8 := by rw [ints_len]; exact hlen
          rw [hl7] at ⊢
          have HD := Aside0.mk (And.intro (Done_any w7 _ _ _ _ _ _ _ _ hP7.is) hB7)
          have he : hE (some m1) = 0 := rfl
          rw [he]
          clear hP7 hB7 hR7 hC7 hc7 hl7 hlen hr he
          go_wp2_with (go_at_call 12; refine HD.out.1.mono ?_; rintro e w8 ⟨rfl, rfl⟩)
          go_ret
          exact ⟨rfl, HD.out.2⟩
        | none =>
          have HD := Aside0.mk (And.intro hB7 hP7)
          have he : hE none = 12 := rfl
          rw [he]
          clear hP7 hB7 hR7 hr he
          go_wp2
          exact ⟨⟨i + 1, b7, sb7, c1, X, Y, by go_num, by omega, HD.out.1, HD.out.2⟩, by simp only [intOf]; omega⟩
      · have hi6i : ¬ (i : Int) < 6 := by omega
        have d1 : decide ((i : Int) < 6) = false := decide_eq_false hi6i
        have d2 : decide (i < 6) = false := decide_eq_false hi6
        have HE := Aside0.mk (And.intro hB hP)
        clear hB hP
        go_wp2_with fail
        refine (Version17_any m HC.out.2.2.2.1 A 8 c wr HC.out.2.2.2.2.1 (Kd.C_below HC.out.2.1 HE.out.1) (by omega) k hk4).mono ?_
        rintro e w6 ⟨u6, rfl, hR6, hB6⟩
        obtain ⟨L, hL⟩ : ∃ L, 8 * (8 + 4) + 6 = L := ⟨_, rfl⟩
        obtain ⟨A6, c6, rfl, hc6, hC6⟩ := Kd.R_reads hR6
        have hl6 : (ints (verL m k)).length = L := by rw [ints_len, verL_len, HC.out.2.2.2.2.1]; exact hL
        rw [hl6] at hc6 hC6 hR6 ⊢
        have hP6 := HE.out.2.below hB6
        have hof := Offer_all w.heap.size b sb 8 8 came xs cs k hk4 (verL m k) (verL_bits m k) L hL (by rw [← ints_len]; exact hl6) A6 c6 hc6 w6 hP6.is (by omega) hP6.in_ hC6 (row_apart hP6.is hR6) hP6.taps hP6.zero
        obtain ⟨r, hr, hrl⟩ := hRes_ver m HC.out.2.2.2.1 hk4 (addv (offX 8 8 came xs) k (verL m k) (8 * (8 + 4) + 6))
        rw [HC.out.2.2.2.2.1] at hr hrl
        unfold OffPost at hof
        rw [hr, show hE (some r) = 0 from rfl] at hof
        have HF := Aside0.mk (And.intro hof (And.intro hP6 (And.intro (HE.out.1.trans (hB6.mono HE.out.1.size)) hrl)))
        clear hof hP6 hR6 hC6 hc6 hB6 hl6 hr hrl
        go_wp2_with fail
        refine HF.out.1.mono ?_
        rintro e w7 ⟨u7, b7, sb7, rfl, hR7, hI7, hs7, hC7⟩
        have hB7 : Below w.heap.size w w7 := HF.out.2.1.keeps (Nat.le_refl _) hC7 HF.out.2.2.1 (Nat.le_refl _)
        obtain ⟨A7, c7, rfl, hc7, hC7'⟩ := Kd.R_reads hR7
        have hl7 : (ints ((some r).getD [])).length = 8 := by rw [ints_len]; exact HF.out.2.2.2
        rw [hl7]
        have HD := Aside0.mk (And.intro (Done_any w7 _ _ _ _ _ _ _ _ hI7) hB7)
        clear hB7 hR7 hI7 hs7 hC7 hC7' hc7 hl7
        go_wp2_with (go_at_call 12; refine HD.out.1.mono ?_; rintro e w8 ⟨rfl, rfl⟩)
        go_ret
        exact ⟨rfl, HD.out.2⟩
    · have hiRi : ¬ (i : Int) < (R : Int) := by omega
      have HE := Aside0.mk (And.intro hB hP)
      clear hB hP
      go_wp2_with fail
      refine (Version17_any m HC.out.2.2.2.1 A 8 c wr HC.out.2.2.2.2.1 (Kd.C_below HC.out.2.1 HE.out.1) (by omega) k hk4).mono ?_
      rintro e w6 ⟨u6, rfl, hR6, hB6⟩
      obtain ⟨L, hL⟩ : ∃ L, 8 * (8 + 4) + 6 = L := ⟨_, rfl⟩
      obtain ⟨A6, c6, rfl, hc6, hC6⟩ := Kd.R_reads hR6
      have hl6 : (ints (verL m k)).length = L := by rw [ints_len, verL_len, HC.out.2.2.2.2.1]; exact hL
      rw [hl6] at hc6 hC6 hR6 ⊢
      have hP6 := HE.out.2.below hB6
      have hof := Offer_all w.heap.size b sb 8 8 came xs cs k hk4 (verL m k) (verL_bits m k) L hL (by rw [← ints_len]; exact hl6) A6 c6 hc6 w6 hP6.is (by omega) hP6.in_ hC6 (row_apart hP6.is hR6) hP6.taps hP6.zero
      obtain ⟨r, hr, hrl⟩ := hRes_ver m HC.out.2.2.2.1 hk4 (addv (offX 8 8 came xs) k (verL m k) (8 * (8 + 4) + 6))
      rw [HC.out.2.2.2.2.1] at hr hrl
      unfold OffPost at hof
      rw [hr, show hE (some r) = 0 from rfl] at hof
      have HF := Aside0.mk (And.intro hof (And.intro hP6 (And.intro (HE.out.1.trans (hB6.mono HE.out.1.size)) hrl)))
      clear hof hP6 hR6 hC6 hc6 hB6 hl6 hr hrl
      go_wp2_with fail
      refine HF.out.1.mono ?_
      rintro e w7 ⟨u7, b7, sb7, rfl, hR7, hI7, hs7, hC7⟩
      have hB7 : Below w.heap.size w w7 := HF.out.2.1.keeps (Nat.le_refl _) hC7 HF.out.2.2.1 (Nat.le_refl _)
      obtain ⟨A7, c7, rfl, hc7, hC7'⟩ := Kd.R_reads hR7
      have hl7 : (ints ((some r).getD [])).length = 8 := by rw [ints_len]; exact HF.out.2.2.2
      rw [hl7]
      have HD := Aside0.mk (And.intro (Done_any w7 _ _ _ _ _ _ _ _ hI7) hB7)
      clear hB7 hR7 hI7 hs7 hC7 hC7' hc7 hl7
      go_wp2_with (go_at_call 12; refine HD.out.1.mono ?_; rintro e w8 ⟨rfl, rfl⟩)
      go_ret
      exact ⟨rfl, HD.out.2⟩
end Go.Proofs.YtnejnnfjbhpigaaDoor.Vit

namespace Go.Proofs.YtnejnnfjbhpigaaDoor.Vit
open Go.RowKit Go.Proofs.YtnejnnfjbhpigaaDoorW.PrintWords Go.Proofs.YtnejnnfjbhpigaaDoorW.PrintLast Go.Proofs.YtnejnnfjbhpigaaDoorW.PrintMore Go.Proofs.YtnejnnfjbhpigaaDoor.Mem Go.Proofs.YtnejnnfjbhpigaaDoor.Crc
attribute [local go_sem] max2_int min2_int max_two min_two max_three min_three max_four min_four   -- for this text's walks alone
set_option linter.unusedVariables false
set_option linter.unusedSimpArgs false

open Go.Proofs.YtnejnnfjbhpigaaDoor.Chk
theorem alone_any (A Ar : Option Addr) (n c R cr : Nat) (l : List Int) (row : List HRow) (v : Int) (w : World) (hC : (Kd.int .u8).C w A n l) (hb : ∀ x ∈ l, 0 ≤ x ∧ x ≤ 255) (hc : n ≤ c) (hl : n ≤ 140737488355328) (hR : HC5.C w Ar R row) (hRl : R ≤ 140737488355328) (hRc : R ≤ cr) (ht : Taps w) :
    Calls Tryd.prog 3 #[.slice A n c, .slice Ar R cr, .int .i64 v] w fun e w' => e = .returned (.bool true) ∧ Below w.heap.size w w' := by
  have hi := nats_ints (fun x hx => (hb x hx).1)
  have hln := Kd.C_len hC
  have hlt := nats_lt hb
  rw [← hi] at hC
  by_cases h4 : n ≤ 8
  · exact alone_few A Ar n c R cr _ row v w (by rw [List.length_map]; exact hln) hC hlt hc hl h4 hR hRl hRc ht
  · obtain ⟨g, o, hA, _⟩ := row_formK hC (by omega)
    subst hA
    have hC4 := C_part (m := 8) hC (by rw [List.length_map]; exact hln) (by omega)
    exact alone_cut _ Ar n c R cr _ row v w (by rw [List.length_take, List.length_map, hln]; omega) hC4 (fun x hx => hlt x (List.mem_of_mem_take hx)) hc hl (by omega) hR hRl hRc ht
end Go.Proofs.YtnejnnfjbhpigaaDoor.Vit
