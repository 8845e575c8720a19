/- Contract of the document's decoder that goes through all lists (Brute): each theorem says its own conditions. -/
import Derived.Test.YticiilolmkbncaaDoorVv
namespace Go.Proofs.YticiilolmkbncaaDoor.Vit
open Go.RowKit Go.Proofs.YticiilolmkbncaaDoorW.PrintWords Go.Proofs.YticiilolmkbncaaDoorW.PrintLast Go.Proofs.YticiilolmkbncaaDoorW.PrintMore Go.Proofs.YticiilolmkbncaaDoor.Mem
attribute [local go_sem] max2_int min2_int max_two min_two max_three min_three max_four min_four   -- for this text's walks alone
set_option linter.unusedVariables false
set_option linter.unusedSimpArgs false

/-- The bits of a number, the greatest first. -/
def bitsOf : Nat → Nat → List Nat
  | 0, _ => []
  | n + 1, k => k / 2 ^ n % 2 :: bitsOf n k
theorem bitsOf_len : ∀ n k, (bitsOf n k).length = n
  | 0, _ => rfl
  | n + 1, k => by unfold bitsOf; rw [List.length_cons, bitsOf_len n k]
theorem bitsOf_bits : ∀ n k, Bits (bitsOf n k)
  | 0, _ => fun b hb => by simp [bitsOf] at hb
  | n + 1, k => by
    intro b hb
    unfold bitsOf at hb
    rcases List.mem_cons.1 hb with rfl | h
    · omega
    · exact bitsOf_bits n k b h
theorem num_bitsOf : ∀ n k, num (bitsOf n k) = k % 2 ^ n
  | 0, k => by simp [bitsOf, num, Nat.mod_one]
  | n + 1, k => by
    show k / 2 ^ n % 2 * 2 ^ (bitsOf n k).length + num (bitsOf n k) = _
    rw [bitsOf_len, num_bitsOf n k, Nat.pow_succ, Nat.mod_mul, Nat.mul_comm]
    omega
theorem bitsOf_take : ∀ n k j, j < n → (bitsOf n k).take (j + 1) = (bitsOf n k).take j ++ [k / 2 ^ (n - 1 - j) % 2]
  | 0, k, j, h => absurd h (Nat.not_lt_zero _)
  | n + 1, k, 0, _ => by simp [bitsOf]
  | n + 1, k, j + 1, h => by
    unfold bitsOf
    rw [List.take_succ_cons, bitsOf_take n k j (by omega), List.take_succ_cons, List.cons_append, show n + 1 - 1 - (j + 1) = n - 1 - j by omega]

/-- What the list of a number scores. -/
def scof (Y : List Int) (n i : Nat) : Int := sc Y (code (bitsOf n i))
/-- What the loop over all lists has at hand. -/
def BrSt (Y : List Int) (n k : Nat) (tp : Value) (sv : Int) (wr : World) : Prop :=
  (k = 0 ∧ tp = .slice none 0 0 ∧ sv = none40) ∨
    ∃ (kb : Nat) (At : Option Addr) (ct : Nat), kb < k ∧ tp = .slice At n ct ∧ n ≤ ct ∧ sv = scof Y n kb ∧ (Kd.int .u8).C wr At n (ints (bitsOf n kb)) ∧ (∀ i, i < k → scof Y n i ≤ sv) ∧ ∀ i, i < kb → scof Y n i < sv
theorem BrSt.below {Y : List Int} {n k : Nat} {tp : Value} {sv : Int} {w w1 : World} (h : BrSt Y n k tp sv w) (hb : Below w.heap.size w w1) : BrSt Y n k tp sv w1 := by
  rcases h with h | ⟨kb, At, ct, h1, h2, h3, h4, h5, h6, h7⟩
  · exact Or.inl h
  · exact Or.inr ⟨kb, At, ct, h1, h2, h3, h4, Kd.C_below h5 hb, h6, h7⟩
theorem BrSt.more {Y : List Int} {n k : Nat} {tp : Value} {sv : Int} {w : World} (h : BrSt Y n k tp sv w) (hs : sv < scof Y n k) {At : Option Addr} {ct : Nat} (hc : n ≤ ct) (hC : (Kd.int .u8).C w At n (ints (bitsOf n k))) :
    BrSt Y n (k + 1) (.slice At n ct) (scof Y n k) w := by
  refine Or.inr ⟨k, At, ct, by omega, rfl, hc, rfl, hC, fun i hi => ?_, fun i hi => ?_⟩
  · by_cases he : i = k
    · rw [he]; exact Int.le_refl _
    · rcases h with h | ⟨kb, _, _, h1, _, _, h4, _, h6, _⟩
      · omega
      · have := h6 i (by omega); omega
  · rcases h with h | ⟨kb, _, _, h1, _, _, h4, _, h6, _⟩
    · omega
    · have := h6 i (by omega); omega
theorem BrSt.same {Y : List Int} {n k : Nat} {tp : Value} {sv : Int} {w : World} (h : BrSt Y n k tp sv w) (hs : scof Y n k ≤ sv) (h40 : none40 < scof Y n k) : BrSt Y n (k + 1) tp sv w := by
  rcases h with h | ⟨kb, At, ct, h1, h2, h3, h4, h5, h6, h7⟩
  · omega
  · refine Or.inr ⟨kb, At, ct, by omega, h2, h3, h4, h5, fun i hi => ?_, h7⟩
    by_cases he : i = k
    · rw [he]; exact hs
    · exact h6 i (by omega)
theorem in1000 {Y : List Int} (hin : ∀ y ∈ Y, -31 ≤ y ∧ y ≤ 31) : ∀ j, -1000 ≤ (fun j => Y.getD j 0) j ∧ (fun j => Y.getD j 0) j ≤ 1000 := fun j => by
  show -1000 ≤ Y.getD j 0 ∧ Y.getD j 0 ≤ 1000
  by_cases hj : j < Y.length
  · have h1 : Y.getD j 0 ∈ Y := by rw [List.getD_eq_getElem?_getD, List.getElem?_eq_getElem hj]; exact List.getElem_mem hj
    have := hin _ h1
    omega
  · rw [List.getD_eq_getElem?_getD, List.getElem?_eq_none (by omega)]
    exact ⟨by decide, by decide⟩
theorem scof_ps {Y : List Int} {n : Nat} (hY : Y.length = 4 * (n + 6)) (i : Nat) : ps (fun j => Y.getD j 0) 0 0 (bitsOf n i ++ zs 6) = scof Y n i :=
  ps_sc (fun j => Y.getD j 0) (bitsOf n i ++ zs 6) 0 0 Y (by rw [hY, List.length_append, zs_len, bitsOf_len]) (fun j => Or.inl (by rw [Nat.mul_zero, Nat.zero_add]))
theorem scof_40 {Y : List Int} {n : Nat} (hn : n < 8) (hY : Y.length = 4 * (n + 6)) (hin : ∀ y ∈ Y, -31 ≤ y ∧ y ≤ 31) (i : Nat) : none40 < scof Y n i := by
  have h := (ps_in (in1000 hin) (bitsOf n i ++ zs 6) 0 0).1
  rw [scof_ps hY, List.length_append, bitsOf_len, zs_len] at h
  have := n40
  push_cast at h
  omega
/-- When all are done: the best way. -/
theorem BrSt.done {Y : List Int} {n : Nat} {tp : Value} {sv : Int} {w : World} (hn : n < 8) (hY : Y.length = 4 * (n + 6)) (hin : ∀ y ∈ Y, -31 ≤ y ∧ y ≤ 31) (h : BrSt Y n (2 ^ n) tp sv w) :
    ∃ At ct, tp = .slice At n ct ∧ sv = cv (fun j => Y.getD j 0) n (n + 6) 0 0 ∧ (Kd.int .u8).C w At n (ints (bw (fun j => Y.getD j 0) n (n + 6) n 0 0)) := by
  have hpos : 0 < 2 ^ n := Nat.two_pow_pos n
  rcases h with h | ⟨kb, At, ct, h1, h2, h3, h4, h5, h6, h7⟩
  · omega
  obtain ⟨a1, b1, _, d1⟩ := cv_best (in1000 hin) (show n ≤ 4096 by omega) n 0 0 (by omega) (by omega)
  obtain ⟨f, hf⟩ : ∃ f : Nat → Int, (fun j => Y.getD j 0) = f := ⟨_, rfl⟩
  have hps := fun i => scof_ps hY i
  rw [hf] at a1 b1 d1 hps ⊢
  have lb := bw_len f n (n + 6) n 0 0
  have bb := bw_bits f n (n + 6) n 0 0
  have hnum := num_lt bb
  rw [lb] at hnum
  obtain ⟨q, hq⟩ : ∃ q, num (bw f n (n + 6) n 0 0) = q := ⟨_, rfl⟩
  rw [hq] at hnum
  have eb : bitsOf n q = bw f n (n + 6) n 0 0 := num_inj (by rw [bitsOf_len, lb]) (bitsOf_bits _ _) bb (by rw [num_bitsOf, hq, Nat.mod_eq_of_lt hnum])
  have hsq : scof Y n q = cv f n (n + 6) 0 0 := by rw [← hps, eb, b1]
  have hle := h6 q hnum
  have hge : scof Y n kb ≤ cv f n (n + 6) 0 0 := by rw [← hps]; exact a1 _ (bitsOf_len _ _) (bitsOf_bits _ _)
  have hsv : sv = cv f n (n + 6) 0 0 := by omega
  have hd := d1 (bitsOf n kb) (bitsOf_len _ _) (bitsOf_bits _ _) (by rw [hps]; omega)
  rw [num_bitsOf, Nat.mod_eq_of_lt h1, hq] at hd
  have hkb : kb = q := by
    rcases Nat.lt_or_ge q kb with hl | hl
    · have := h7 q hl
      omega
    · omega
  exact ⟨At, ct, h2, hsv, by rw [← eb, ← hkb]; exact h5⟩

theorem and1_is {x : Int} (h0 : 0 ≤ x) (h1 : x < 2 ^ 7) : Go.bits .and .i64 x 1 = x % 2 :=
  bits_mask .i64 7 (by decide) (fun n h0 h1 => by rw [IntKind.wrap_i64]; have : (2 : Int) ^ 7 = 128 := by decide
                                                  omega) 1 (by decide) x h0 h1
theorem shr_is {k i : Nat} (hk : k < 128) : Go.bits .and .i64 ((k : Int) / 2 ^ i) 1 = ((k / 2 ^ i % 2 : Nat) : Int) := by
  have e : (k : Int) / 2 ^ i = ((k / 2 ^ i : Nat) : Int) := by push_cast; rfl
  obtain ⟨m, hm⟩ : ∃ m, k / 2 ^ i = m := ⟨_, rfl⟩
  have hle : m < 128 := by rw [← hm]; exact Nat.lt_of_le_of_lt (Nat.div_le_self _ _) hk
  have h27 : (2 : Int) ^ 7 = 128 := by decide
  rw [e, hm, and1_is (by omega) (by omega)]
  omega
/-- The best score, and the list. -/
def bestS (Y : List Int) (n : Nat) : Int := cv (fun j => Y.getD j 0) n (n + 6) 0 0
def bestL (Y : List Int) (n : Nat) : List Nat := bw (fun j => Y.getD j 0) n (n + 6) n 0 0

set_option maxHeartbeats 6400000 in
set_option maxRecDepth 100000 in
theorem Brute_any (Y : List Int) (n : Nat) (hn : n < 8) (hY : Y.length = 4 * (n + 6)) (hin : ∀ y ∈ Y, -31 ≤ y ∧ y ≤ 31) (A : Option Addr) (c : Nat) (w : World) (hC : (Kd.int .i64).C w A Y.length Y) (hc : Y.length ≤ c) :
    Calls Tryd.prog 15 #[.slice A Y.length c] w fun e w' =>
      ∃ A' c', e = .returned (.tuple #[.slice A' n c', .int .i64 (bestS Y n)]) ∧ (Kd.int .u8).C w' A' n (ints (bestL Y n)) ∧ Below w.heap.size w w' := by
  obtain ⟨K, hK⟩ : ∃ K, Y.length = K := ⟨_, rfl⟩
  have h40 := fun i => scof_40 hn hY hin i
  rw [hK] at hC hc hY ⊢
  have q1 : (K : Int).tdiv 4 = (n : Int) + 6 := by rw [Int.tdiv_eq_ediv_of_nonneg (by omega)]; omega
  have q3 : wrap64 ((n : Int) + 6) = (n : Int) + 6 := by unfold wrap64; omega
  have q4 : wrap64 (n : Int) = (n : Int) := by unfold wrap64; omega
  have q5 : wrap64 ((n : Int) - 1) = (n : Int) - 1 := by unfold wrap64; omega
  obtain ⟨N2, hN2⟩ : ∃ N2, 2 ^ n = N2 := ⟨_, rfl⟩
  have hN128 : N2 ≤ 128 := by rw [← hN2]; exact Nat.pow_le_pow_right (by decide) (show n ≤ 7 by omega)
  have hNI : (2 : Int) ^ n = (N2 : Int) := by rw [← hN2]; push_cast; rfl
  have hsh : wrap64 ((2 : Int) ^ n) = (N2 : Int) := by rw [hNI]; unfold wrap64; omega
  have hscore := fun (k : Nat) (W : World) (B : Option Addr) (d : Nat) h1 h2 hd => Score_any Y (code (bitsOf n k)) (fun y hy => by have := hin y hy; omega) A B c d K W hK (by rw [code_len, bitsOf_len, hY]) (by omega) h1 h2 hc hd
  have HC := Aside0.mk (And.intro hC (And.intro hin (And.intro hK (And.intro hY (And.intro hN2 (And.intro h40 hscore))))))
  clear hC hin hK hY hN2 hNI h40 hscore
  go_enter Tryd.func15, Tryd.ntmps15
  go_wp2_with fail
  go_loopw [5, 6, 7] (fun tp s kk wr => ∃ (k : Nat) (sv : Int), kk = .int .i64 k ∧ k ≤ N2 ∧ s = .int .i64 sv ∧ BrSt Y n k tp sv wr ∧ Below w.heap.size w wr) (fun _ _ kk _ => N2 - (intOf kk).toNat)
  case atStart => exact ⟨0, none40, rfl, by omega, rfl, Or.inl ⟨rfl, rfl, rfl⟩, Below.refl _ _⟩
  case round =>
    obtain ⟨k, sv, rfl, hk, rfl, hst, hB⟩ := hrel
    obtain ⟨wz, hwz⟩ : ∃ wz : World, wz = wr := ⟨wr, rfl⟩
    have HWZ := Aside0.mk hwz
    clear hwz
    have HS := Aside0.mk (And.intro hst hB)
    clear hst hB
    by_cases hlt : k < N2
    · have hlt' : (k : Int) < (N2 : Int) := by omega
      go_upto_block 2 with fail
      go_cut [8] (fun o wx => (Kd.int .u8).R 5 wx wz.heap.size (fun _ => True) o (ints (bitsOf n k)) ∧ Below wz.heap.size wz wx)
      case first =>
        clear hsh
        go_wp2_with fail
        go_loopw [8, 9] (fun o s w2 => ∃ r : Nat, s = .int .i64 ((r : Int) - 1) ∧ r ≤ n ∧ (Kd.int .u8).R 5 w2 wz.heap.size (fun _ => True) o (ints ((bitsOf n k).take (n - r))) ∧ Below wz.heap.size wz w2) (fun _ s _ => (intOf s + 1).toNat)
        case atStart => exact ⟨n, rfl, Nat.le_refl _, by rw [Nat.sub_self]; exact Kd.R_nil _ _ _ _ _, by rw [HWZ.out]; exact Below.refl _ _⟩
        case round =>
          obtain ⟨r, rfl, hr, hR, hB⟩ := hrel
          have HR := Aside0.mk (And.intro hR hB)
          clear hR hB
          cases r with
          | zero =>
            rw [show (((0 : Nat) : Int) - 1) = -1 by omega]
            go_wp2_with fail
            go_meet
            have h := HR.out.1
            rw [Nat.sub_zero, List.take_of_length_le (by rw [bitsOf_len]; exact Nat.le_refl _)] at h
            exact ⟨h, HR.out.2⟩
          | succ i =>
            rw [show (((i + 1 : Nat) : Int) - 1) = (i : Int) by omega]
            have hb := shr_is (k := k) (i := i) (by omega)
            obtain ⟨P, hP⟩ : ∃ P, k / 2 ^ i % 2 = P := ⟨_, rfl⟩
            have hP1 : P ≤ 1 := by omega
            rw [hP] at hb
            have hw8 : IntKind.u8.wrap ((P : Nat) : Int) = (P : Int) := by rw [IntKind.wrap_u8]; omega
            have hsub : wrap64 ((i : Int) - 1) = (i : Int) - 1 := by unfold wrap64; omega
            have hmin : min i 64 = i := by omega
            have HP := Aside0.mk hP
            clear hP hP1
            have hl27 : (ints ((bitsOf n k).take (n - (i + 1)))).length ≤ 8 := by rw [ints_len, List.length_take, bitsOf_len]; omega
            have HL := Aside0.mk hl27
            clear hl27
            go_wp2_with (first | ((with_reducible refine gate_builtin (b := .append) (xs := #[.tmp 27, .tmp 33]) rfl ?_); at_builtin; refine Kd.R_append (Kd.int .u8) (w0 := wz) wz.heap.size rfl (.tmp 27) (.tmp 33) 25 5 (.int .u8 0) 1 rfl Tryd.underlying25 info5 rfl (by decide) (by omega) u8 (ints ((bitsOf n k).take (n - (i + 1)))) (P : Int) [.int .u8 P] (fun _ => True) (fun _ => False) rfl rfl ?aP (fun _ hk => hk.elim) ?aF ?aO ?aB ?aS ?aL ?_; (case aP => exact rfl); (case aB => exact HR.out.2); (case aF => exact (fun _ _ => trivial)); (case aO => exact HR.out.1); (case aS => exact below_size HR.out.2); (case aL => have := HL.out; omega); intro v1 w7 ho hb hg hat; have HN := Aside0.mk (And.intro ho hb); clear ho hb hg hat))
            refine ⟨⟨i, rfl, by omega, ?_, HN.out.2⟩, by simp only [intOf]; omega⟩
            have e := bitsOf_take n k (n - (i + 1)) (by omega)
            rw [show n - (i + 1) + 1 = n - i by omega, show n - 1 - (n - (i + 1)) = i by omega, HP.out] at e
            rw [e, ints_append]
            exact HN.out.1
      case rest =>
        obtain ⟨hR, hBc⟩ := hcut
        rw [HWZ.out] at hR hBc
        obtain ⟨Ab, cb, eb, hcb, hCb⟩ := Kd.R_reads hR
        rw [ints_len, bitsOf_len] at eb hcb hCb
        subst eb
        have HBC := Aside0.mk (And.intro hBc (And.intro hCb hcb))
        clear hR hBc hCb hcb
        obtain ⟨X, hX⟩ : ∃ X, scof Y n k = X := ⟨_, rfl⟩
        have hcode := fun W hW => Code_any (bitsOf n k) (bitsOf_bits n k) Ab cb W hW (by rw [bitsOf_len]; exact HBC.out.2.2) (by rw [bitsOf_len]; omega)
        rw [bitsOf_len] at hcode
        have hsc := HC.out.2.2.2.2.2.2 k
        rw [show sc Y (code (bitsOf n k)) = X from hX] at hsc
        have HX := Aside0.mk (And.intro hX (And.intro hcode hsc))
        clear hX hcode hsc
        by_cases hgt : sv < X
        · have HG := Aside0.mk hgt
          go_wp2_with (first | (go_at_call 20; refine (HX.out.2.1 _ HBC.out.2.1).mono ?_; rintro e w10 ⟨v10, rfl, hR10, hB10⟩; obtain ⟨A6, c6, e6, hc6, hC6⟩ := Kd.R_reads hR10; rw [ints_len, code_len, bitsOf_len, ← HC.out.2.2.2.1] at e6 hc6 hC6; subst e6; have H10 := Aside0.mk (And.intro hc6 (And.intro hC6 hB10)); clear hR10 hc6 hC6 hB10) | (go_at_call 19; refine (HX.out.2.2 _ A6 c6 (Kd.C_below (Kd.C_below (Kd.C_below HC.out.1 HS.out.2) HBC.out.1) H10.out.2.2) H10.out.2.1 H10.out.1).mono ?_; rintro e w11 ⟨rfl, rfl⟩))
          have hBx := HBC.out.1.trans (H10.out.2.2.mono HBC.out.1.size)
          refine ⟨⟨k + 1, X, by go_num, by omega, rfl, ?_, HS.out.2.trans (hBx.mono HS.out.2.size)⟩, by simp only [intOf]; omega⟩
          rw [← HX.out.1]
          exact (HS.out.1.below hBx).more (by rw [HX.out.1]; exact HG.out) HBC.out.2.2 (Kd.C_below HBC.out.2.1 H10.out.2.2)
        · have HG := Aside0.mk hgt
          go_wp2_with (first | (go_at_call 20; refine (HX.out.2.1 _ HBC.out.2.1).mono ?_; rintro e w10 ⟨v10, rfl, hR10, hB10⟩; obtain ⟨A6, c6, e6, hc6, hC6⟩ := Kd.R_reads hR10; rw [ints_len, code_len, bitsOf_len, ← HC.out.2.2.2.1] at e6 hc6 hC6; subst e6; have H10 := Aside0.mk (And.intro hc6 (And.intro hC6 hB10)); clear hR10 hc6 hC6 hB10) | (go_at_call 19; refine (HX.out.2.2 _ A6 c6 (Kd.C_below (Kd.C_below (Kd.C_below HC.out.1 HS.out.2) HBC.out.1) H10.out.2.2) H10.out.2.1 H10.out.1).mono ?_; rintro e w11 ⟨rfl, rfl⟩))
          have hBx := HBC.out.1.trans (H10.out.2.2.mono HBC.out.1.size)
          refine ⟨⟨k + 1, sv, by go_num, by omega, rfl, ?_, HS.out.2.trans (hBx.mono HS.out.2.size)⟩, by simp only [intOf]; omega⟩
          exact (HS.out.1.below hBx).same (by rw [HX.out.1]; have := HG.out; omega) (HC.out.2.2.2.2.2.1 k)
    · have hlt' : ¬ (k : Int) < (N2 : Int) := by omega
      obtain rfl : k = N2 := by omega
      have hst := HS.out.1
      rw [← HC.out.2.2.2.2.1] at hst
      obtain ⟨At, ct, rfl, e2, hCt⟩ := hst.done hn (HC.out.2.2.1.trans HC.out.2.2.2.1) HC.out.2.1
      replace e2 : sv = bestS Y n := e2
      subst e2
      have HE := Aside0.mk (show (Kd.int .u8).C wr At n (ints (bestL Y n)) from hCt)
      clear hst hCt
      go_wp2_with fail
      go_ret2
      exact ⟨At, ⟨ct, rfl⟩, HE.out, HS.out.2⟩
end Go.Proofs.YticiilolmkbncaaDoor.Vit
