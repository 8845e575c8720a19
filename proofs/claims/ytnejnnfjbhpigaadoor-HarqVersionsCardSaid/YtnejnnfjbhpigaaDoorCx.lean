/- The law HarqAnew: each theorem says its own conditions. -/
import Derived.Test.YtnejnnfjbhpigaaDoorCs
namespace Go.Proofs.YtnejnnfjbhpigaaDoor.Vit
open Go.RowKit Go.Proofs.YtnejnnfjbhpigaaDoorW.PrintWords Go.Proofs.YtnejnnfjbhpigaaDoorW.PrintLast Go.Proofs.YtnejnnfjbhpigaaDoorW.PrintMore Go.Proofs.YtnejnnfjbhpigaaDoor.Mem Go.Proofs.YtnejnnfjbhpigaaDoor.Crc
attribute [local go_sem] max2_int min2_int max_two min_two max_three min_three max_four min_four   -- for this text's walks alone
set_option linter.unusedVariables false
set_option linter.unusedSimpArgs false

open Go.Proofs.YtnejnnfjbhpigaaDoor.Chk
/-- A row of bits of the call's own. -/
def BRow (B L c g : Nat) (wr : World) : Prop := ∃ q : List Nat, Bits q ∧ q.length = L ∧ (Kd.int .u8).R 5 wr B (fun k => B ≤ k) (.slice (some ⟨g, 0, none⟩) L c) (ints q)
theorem BRow.cell {B L c g : Nat} {wr : World} (h : BRow B L c g wr) {j : Nat} (hj : j < L) : ∃ v z : Nat, wr.cell? ⟨g, j, none⟩ = some (.int .u8 (v : Int)) ∧ wr.frozen? ⟨g, j, none⟩ = false ∧ Go.bits .xor .u8 (v : Int) 1 = (z : Int) ∧ BRow B L c g (wr.setCell ⟨g, j, none⟩ (.int .u8 (z : Int))) := by
  obtain ⟨q, hb, hl, hR⟩ := h
  obtain ⟨c1, c2⟩ := Kd.R_celln (0 : Int) hR (j : Int) (by omega) (by omega)
  rw [Int.toNat_natCast] at c1 c2
  have hv : rdOf (0 : Int) (ints q) (j : Int) = ((q.getD j 0 : Nat) : Int) := by
    simp [rdOf, ints, List.getD_eq_getElem?_getD, show j < q.length by omega]
  rw [hv] at c1
  have hle := getD_bit hb j
  have hz : q.getD j 0 ^^^ 1 ≤ 1 := by
    have := Nat.xor_lt_two_pow (n := 1) (x := q.getD j 0) (y := 1) (by omega) (by omega)
    omega
  refine ⟨_, _, c1, c2, xor_u8 (b := 1) (by omega) (by omega), q.set j (q.getD j 0 ^^^ 1), fun x hx => ?_, by rw [List.length_set]; exact hl, ?_⟩
  · rcases List.mem_or_eq_of_mem_set hx with h | h
    · exact hb x h
    · rw [h]
      exact hz
  · have h8 := Kd.R_putn hR (j : Int) ((q.getD j 0 ^^^ 1 : Nat) : Int)
    rw [Int.toNat_natCast] at h8
    have hset : (ints q).set j ((q.getD j 0 ^^^ 1 : Nat) : Int) = ints (q.set j (q.getD j 0 ^^^ 1)) := by unfold ints; rw [List.map_set]
    rw [hset] at h8
    exact h8
theorem brow_of {B L : Nat} {w : World} {v : Value} {q : List Nat} (hR : (Kd.int .u8).R 5 w B (fun k => B ≤ k) v (ints q)) (hb : Bits q) (hl : q.length = L) (h0 : 0 < L) : ∃ g c, v = .slice (some ⟨g, 0, none⟩) L c ∧ B ≤ g ∧ L ≤ c ∧ BRow B L c g w := by
  obtain ⟨g, c, rfl, _, _, _, _⟩ := Kd.R_form hR (by rw [ints_len]; omega)
  rw [ints_len, hl] at hR ⊢
  exact ⟨g, c, rfl, hR.1 g rfl, by
    obtain ⟨A, c', e, h2, _⟩ := Kd.R_reads hR
    rw [ints_len, hl] at e h2
    injection e with _ _ e
    omega, q, hb, hl, hR⟩
theorem BRow.off {B L c g : Nat} {W w' : World} (h : BRow B L c g W) {pb b sb N : Nat} {xs : List Int} {cs : Nat → Nat} {came : Nat} {done : Bool} (hI : IsP W pb b sb N xs cs came done) (hC : Chg (PS3 pb b sb) W w') : BRow B L c g w' := by
  obtain ⟨q, hb, hl, hR⟩ := h
  have hty : ∀ t, 5 ≠ t → ∀ q, q ∈ 5 :: (Kd.int .u8).E → q ≠ t := fun t ht q hq => by
    rcases List.mem_cons.1 hq with rfl | h
    · exact ht
    · exact absurd h List.not_mem_nil
  have h1 := Kd.R_types (Kd.R_types (Kd.R_types hR hI.blk (hty _ (by decide))) hI.buf.blk (hty _ (by decide))) hI.buf.row (hty _ (by decide))
  refine ⟨q, hb, hl, Kd.R_mono (Kd.R_step h1 (fun k hk hlt => hC.block k hlt ?_)) (fun k hk => hk.1.1.1)⟩
  rintro (h | h | h)
  · exact hk.1.1.2 h
  · exact hk.1.2 h
  · exact hk.2 h
theorem BRow.below {B L c g : Nat} {W w' : World} (h : BRow B L c g W) (hB : Below W.heap.size W w') : BRow B L c g w' := by
  obtain ⟨q, hb, hl, hR⟩ := h
  exact ⟨q, hb, hl, Kd.R_below hR hB⟩
theorem offN_next {K N came r i : Nat} (h : offN K N came = i % 16) : offN K K (i % 16 + 1) = (i + 1) % 16 := by
  unfold offN
  by_cases h1 : i % 16 + 1 < 16
  · rw [if_pos ⟨rfl, h1⟩]; omega
  · rw [if_neg (fun h => h1 h.2)]; omega
theorem mod_in (v : Int) (M : Nat) (h0 : 0 < M) (hM : M ≤ 1000) : ∃ k : Nat, wrap64 ((IntKind.u64.wrap v).tmod (M : Int)) = (k : Int) ∧ k < M := by
  have h1 : (IntKind.u64.wrap v).tmod (M : Int) = (IntKind.u64.wrap v) % (M : Int) := Int.tmod_eq_emod_of_nonneg (wrap_u64_nonneg v)
  have h2 := Int.emod_nonneg (IntKind.u64.wrap v) (show (M : Int) ≠ 0 by omega)
  have h3 := Int.emod_lt_of_pos (IntKind.u64.wrap v) (show (0 : Int) < (M : Int) by omega)
  rw [h1, wrap64_in _ (by omega) (by omega)]
  exact ⟨((IntKind.u64.wrap v) % (M : Int)).toNat, by omega, by omega⟩
set_option maxHeartbeats 3200000 in
set_option maxRecDepth 100000 in
theorem anew_few (A : Option Addr) (n c : Nat) (m : List Nat) (nn v : Int) (w : World) (hn : m.length = n) (hC : (Kd.int .u8).C w A n (ints m)) (hb : ∀ x ∈ m, x < 256) (hc : n ≤ c) (hl : n ≤ 140737488355328) (h4 : n ≤ 4) (ht : Taps w) :
    Calls Tryd.prog 6 #[.slice A n c, .int .i64 nn, .int .i64 v] w fun e w' => e = .returned (.bool true) ∧ Below w.heap.size w w' := by
  have h4i : (n : Int) ≤ 4 := by omega
  obtain ⟨k, hk, hk4⟩ := mod_in v 4 (by omega) (by omega)
  obtain ⟨tm, htm, htm20⟩ := mod_in nn 20 (by omega) (by omega)
  simp only [Int.cast_ofNat_Int, Int.ofNat_eq_natCast] at hk htm
  have hnew := HNew_any (n + 1) (by omega) w
  have HC := Aside0.mk (And.intro hnew (And.intro hC (And.intro ht (And.intro hb hn))))
  clear hnew hC ht hb hn
  go_enter Tryd.func6, Tryd.ntmps6
  go_wp2_with fail
  refine HC.out.1.mono ?_
  rintro e w1 ⟨rfl, hI1, hB1⟩
  have hrd := reads_any w1 (HC.out.2.2.1.below hB1)
  have hP1 := Proc.new HC.out.2.2.1 hI1 hB1
  have H1 := Aside0.mk (And.intro hB1 (And.intro hP1 hrd))
  clear hB1 hrd hI1 hP1
  go_wp2_with fail
  refine H1.out.2.2.mono ?_
  rintro e w2 ⟨rfl, hB2⟩
  have H2 := Aside0.mk (And.intro (H1.out.1.trans (hB2.mono H1.out.1.size)) (H1.out.2.1.below hB2))
  clear hB2
  go_wp2_with fail
  refine (Len_any w2 _ _ _ _ _ _ _ _ H2.out.2.is).mono ?_
  rintro e w3 ⟨rfl, rfl⟩
  go_wp2_with fail
  refine (Version17_any m HC.out.2.2.2.1 A n c w2 HC.out.2.2.2.2 (Kd.C_below HC.out.2.1 H2.out.1) (by omega) k hk4).mono ?_
  rintro e w3 ⟨u3, rfl, hR3, hB3⟩
  obtain ⟨L, hL⟩ : ∃ L, 8 * (n + 4) + 6 = L := ⟨_, rfl⟩
  obtain ⟨g, cb, rfl, hgB, hcb, hrow⟩ := brow_of (L := L) hR3 (verL_bits _ _) (by rw [verL_len, HC.out.2.2.2.2]; exact hL) (by omega)
  have H3 := Aside0.mk (And.intro hB3 (And.intro hrow (And.intro hgB (And.intro hcb hL))))
  clear hB3 hrow hgB hcb hR3 hL
  go_wp2_with fail
  try rw [hk]
  clear hk
  go_loopw [11] (fun x wr => ∃ j : Nat, x = .int .i64 j ∧ j ≤ L + 1 ∧ BRow w2.heap.size L cb g wr ∧ Below w2.heap.size w2 wr) (fun x _ => L + 1 - (intOf x).toNat)
  case atStart => exact ⟨0, rfl, Nat.zero_le _, H3.out.2.1, H3.out.1⟩
  case round =>
    obtain ⟨j, rfl, hj, hrow, hB⟩ := hrel
    have hLb : (L : Int) ≤ 1000 := by have := H3.out.2.2.2.2; omega
    by_cases hlt : j < L
    · have hlti : (j : Int) < (L : Int) := by omega
      obtain ⟨x, z, c1, c2, hx, hput⟩ := hrow.cell hlt
      have HR := Aside0.mk (And.intro hput hB)
      clear hrow hB hput
      go_wp2
      exact ⟨⟨j + 2, by go_num, by omega, HR.out.1, HR.out.2.setCell (p := ⟨g, j, none⟩) H3.out.2.2.1 _⟩, by simp only [intOf]; omega⟩
    · have hgei : ¬ (j : Int) < (L : Int) := by omega
      have HR := Aside0.mk (And.intro hrow (And.intro (H2.out.1.trans (hB.mono H2.out.1.size)) (H2.out.2.below hB)))
      clear hrow hB
      go_wp2_with fail
      try rw [htm]
      clear htm
      go_loopw [13] (fun x wv => ∃ i N came b sb : Nat, ∃ xs cs, x = .int .i64 i ∧ i ≤ tm ∧ BRow w2.heap.size L cb g wv ∧ Below w.heap.size w wv ∧ Proc w.heap.size wv w.heap.size b sb N xs cs came false ∧ offN n N came = i % 16) (fun x _ => tm - (intOf x).toNat)
      case atStart =>
        exact ⟨0, n + 1, 0, _, _, _, _, rfl, Nat.zero_le _, HR.out.1, HR.out.2.1, HR.out.2.2, by unfold offN; rw [if_neg (by omega)]⟩
      case round =>
        obtain ⟨i, N, came, b, sb, xs, cs, rfl, hi, hrow, hB, hP, hoff⟩ := hrel
        by_cases hlt2 : i < tm
        · have hlt2i : (i : Int) < (tm : Int) := by omega
          obtain ⟨q, hqb, hql, hqR⟩ := id hrow
          obtain ⟨A4, c4, e4, hc4, hC4⟩ := Kd.R_reads hqR
          rw [ints_len, hql] at e4 hc4 hC4
          injection e4 with e4a e4b e4c
          subst e4a e4c
          have hof := Offer_all w.heap.size b sb n N came xs cs k hk4 q hqb L H3.out.2.2.2.2 hql _ _ hc4 wr hP.is (by omega) hP.in_ hC4 (row_apart hP.is hqR) hP.taps hP.zero
          have HF := Aside0.mk (And.intro hof (And.intro hP (And.intro hB (And.intro hrow hoff))))
          clear hof hP hB hrow hoff hqR hC4 hc4
          go_wp2_with fail
          refine HF.out.1.mono ?_
          rintro e w5 ⟨u5, b5, sb5, rfl, hR5, hI5, hs5, hC5⟩
          have hP5 := HF.out.2.1.next (u := u5) (e := .returned u5) hI5 hs5 hC5
          have hrow5 := HF.out.2.2.2.1.off HF.out.2.1.is hC5
          have hB5 : Below w.heap.size w w5 := HF.out.2.1.keeps (Nat.le_refl _) hC5 HF.out.2.2.1 (Nat.le_refl _)
          rw [HF.out.2.2.2.2] at hP5
          clear hI5 hs5 hC5 hR5
          generalize hRes _ _ _ _ = r at hP5 ⊢
          generalize addv _ _ _ _ = X at hP5
          generalize bump _ _ = Y at hP5
          obtain ⟨r16, hr16⟩ : ∃ r16, i % 16 = r16 := ⟨_, rfl⟩
          obtain ⟨c1, hc1⟩ : ∃ c1, i % 16 + 1 = c1 := ⟨_, rfl⟩
          have hnext := offN_next (K := n) (r := 0) HF.out.2.2.2.2
          rw [hc1] at hP5 hnext
          cases r with
          | some m1 =>
            have HD := Aside0.mk (And.intro (Done_any w5 _ _ _ _ _ _ _ _ hP5.is) hB5)
            have he : hE (some m1) = 0 := rfl
            rw [he]
            clear hP5 hrow5 hB5 hnext hr16 hc1 he
            go_wp2_with (go_at_call 12; refine HD.out.1.mono ?_; rintro e w6 ⟨rfl, rfl⟩)
            go_ret
            exact ⟨rfl, HD.out.2⟩
          | none =>
            have HD := Aside0.mk (And.intro (Came_any w5 _ _ _ _ _ _ _ _ hP5.is) (And.intro (Len_any w5 _ _ _ _ _ _ _ _ hP5.is) (And.intro hrow5 (And.intro hB5 (And.intro hP5 hnext)))))
            have he : hE none = 12 := rfl
            rw [he]
            have hm16 : (i : Int).tmod 16 = (r16 : Int) := by rw [Int.tmod_eq_emod_of_nonneg (by omega)]; omega
            have hm16b : (r16 : Int) < 16 := by omega
            have hm16c : (0 : Int) ≤ (r16 : Int) := by omega
            have hc1i : (r16 : Int) + 1 = (c1 : Int) := by omega
            clear hP5 hrow5 hB5 hnext hr16 hc1 he
            go_wp2_with (first
              | (go_at_call 17; refine HD.out.1.mono ?_; rintro e w6 ⟨rfl, rfl⟩)
              | (go_at_call 18; refine HD.out.2.1.mono ?_; rintro e w6 ⟨rfl, rfl⟩))
            exact ⟨⟨i + 1, n, c1, b5, sb5, X, Y, by go_num, by omega, HD.out.2.2.1, HD.out.2.2.2.1, HD.out.2.2.2.2.1, HD.out.2.2.2.2.2⟩, by simp only [intOf]; omega⟩
        · have hge2 : ¬ (i : Int) < (tm : Int) := by omega
          have HD := Aside0.mk (And.intro (Done_any wr _ _ _ _ _ _ _ _ hP.is) hB)
          clear hP hB hrow hoff
          go_wp2_with (go_at_call 12; refine HD.out.1.mono ?_; rintro e w5 ⟨rfl, rfl⟩)
          go_ret
          exact ⟨rfl, HD.out.2⟩
set_option maxHeartbeats 3200000 in
set_option maxRecDepth 100000 in
theorem anew_cut (A : Option Addr) (n c : Nat) (m : List Nat) (nn v : Int) (w : World) (hn : m.length = 4) (hC : (Kd.int .u8).C w A 4 (ints m)) (hb : ∀ x ∈ m, x < 256) (hc : n ≤ c) (hl : n ≤ 140737488355328) (h4 : 4 < n) (ht : Taps w) :
    Calls Tryd.prog 6 #[.slice A n c, .int .i64 nn, .int .i64 v] w fun e w' => e = .returned (.bool true) ∧ Below w.heap.size w w' := by
  have h4i : (4 : Int) < (n : Int) := by omega
  have hm4 : max (4 : Int) 0 = 4 := rfl
  obtain ⟨k, hk, hk4⟩ := mod_in v 4 (by omega) (by omega)
  obtain ⟨tm, htm, htm20⟩ := mod_in nn 20 (by omega) (by omega)
  simp only [Int.cast_ofNat_Int, Int.ofNat_eq_natCast] at hk htm
  have hnew := HNew_any (4 + 1) (by omega) w
  have HC := Aside0.mk (And.intro hnew (And.intro hC (And.intro ht (And.intro hb hn))))
  clear hnew hC ht hb hn
  go_enter Tryd.func6, Tryd.ntmps6
  go_wp2_with fail
  refine HC.out.1.mono ?_
  rintro e w1 ⟨rfl, hI1, hB1⟩
  have hrd := reads_any w1 (HC.out.2.2.1.below hB1)
  have hP1 := Proc.new HC.out.2.2.1 hI1 hB1
  have H1 := Aside0.mk (And.intro hB1 (And.intro hP1 hrd))
  clear hB1 hrd hI1 hP1
  go_wp2_with fail
  refine H1.out.2.2.mono ?_
  rintro e w2 ⟨rfl, hB2⟩
  have H2 := Aside0.mk (And.intro (H1.out.1.trans (hB2.mono H1.out.1.size)) (H1.out.2.1.below hB2))
  clear hB2
  go_wp2_with fail
  refine (Len_any w2 _ _ _ _ _ _ _ _ H2.out.2.is).mono ?_
  rintro e w3 ⟨rfl, rfl⟩
  go_wp2_with fail
  refine (Version17_any m HC.out.2.2.2.1 A 4 c w2 HC.out.2.2.2.2 (Kd.C_below HC.out.2.1 H2.out.1) (by omega) k hk4).mono ?_
  rintro e w3 ⟨u3, rfl, hR3, hB3⟩
  obtain ⟨L, hL⟩ : ∃ L, 8 * (4 + 4) + 6 = L := ⟨_, rfl⟩
  obtain ⟨g, cb, rfl, hgB, hcb, hrow⟩ := brow_of (L := L) hR3 (verL_bits _ _) (by rw [verL_len, HC.out.2.2.2.2]; exact hL) (by omega)
  have H3 := Aside0.mk (And.intro hB3 (And.intro hrow (And.intro hgB (And.intro hcb hL))))
  clear hB3 hrow hgB hcb hR3 hL
  go_wp2_with fail
  try rw [hk]
  clear hk
  go_loopw [11] (fun x wr => ∃ j : Nat, x = .int .i64 j ∧ j ≤ L + 1 ∧ BRow w2.heap.size L cb g wr ∧ Below w2.heap.size w2 wr) (fun x _ => L + 1 - (intOf x).toNat)
  case atStart => exact ⟨0, rfl, Nat.zero_le _, H3.out.2.1, H3.out.1⟩
  case round =>
    obtain ⟨j, rfl, hj, hrow, hB⟩ := hrel
    have hLb : (L : Int) ≤ 1000 := by have := H3.out.2.2.2.2; omega
    by_cases hlt : j < L
    · have hlti : (j : Int) < (L : Int) := by omega
      obtain ⟨x, z, c1, c2, hx, hput⟩ := hrow.cell hlt
      have HR := Aside0.mk (And.intro hput hB)
      clear hrow hB hput
      go_wp2
      exact ⟨⟨j + 2, by go_num, by omega, HR.out.1, HR.out.2.setCell (p := ⟨g, j, none⟩) H3.out.2.2.1 _⟩, by simp only [intOf]; omega⟩
    · have hgei : ¬ (j : Int) < (L : Int) := by omega
      have HR := Aside0.mk (And.intro hrow (And.intro (H2.out.1.trans (hB.mono H2.out.1.size)) (H2.out.2.below hB)))
      clear hrow hB
      go_wp2_with fail
      try rw [htm]
      clear htm
      go_loopw [13] (fun x wv => ∃ i N came b sb : Nat, ∃ xs cs, x = .int .i64 i ∧ i ≤ tm ∧ BRow w2.heap.size L cb g wv ∧ Below w.heap.size w wv ∧ Proc w.heap.size wv w.heap.size b sb N xs cs came false ∧ offN 4 N came = i % 16) (fun x _ => tm - (intOf x).toNat)
      case atStart =>
        exact ⟨0, 4 + 1, 0, _, _, _, _, rfl, Nat.zero_le _, HR.out.1, HR.out.2.1, HR.out.2.2, by unfold offN; rw [if_neg (by omega)]⟩
      case round =>
        obtain ⟨i, N, came, b, sb, xs, cs, rfl, hi, hrow, hB, hP, hoff⟩ := hrel
        by_cases hlt2 : i < tm
        · have hlt2i : (i : Int) < (tm : Int) := by omega
          obtain ⟨q, hqb, hql, hqR⟩ := id hrow
          obtain ⟨A4, c4, e4, hc4, hC4⟩ := Kd.R_reads hqR
          rw [ints_len, hql] at e4 hc4 hC4
          injection e4 with e4a e4b e4c
          subst e4a e4c
          have hof := Offer_all w.heap.size b sb 4 N came xs cs k hk4 q hqb L H3.out.2.2.2.2 hql _ _ hc4 wr hP.is (by omega) hP.in_ hC4 (row_apart hP.is hqR) hP.taps hP.zero
          have HF := Aside0.mk (And.intro hof (And.intro hP (And.intro hB (And.intro hrow hoff))))
          clear hof hP hB hrow hoff hqR hC4 hc4
          go_wp2_with fail
          refine HF.out.1.mono ?_
          rintro e w5 ⟨u5, b5, sb5, rfl, hR5, hI5, hs5, hC5⟩
          have hP5 := HF.out.2.1.next (u := u5) (e := .returned u5) hI5 hs5 hC5
          have hrow5 := HF.out.2.2.2.1.off HF.out.2.1.is hC5
          have hB5 : Below w.heap.size w w5 := HF.out.2.1.keeps (Nat.le_refl _) hC5 HF.out.2.2.1 (Nat.le_refl _)
          rw [HF.out.2.2.2.2] at hP5
          clear hI5 hs5 hC5 hR5
          generalize hRes _ _ _ _ = r at hP5 ⊢
          generalize addv _ _ _ _ = X at hP5
          generalize bump _ _ = Y at hP5
          obtain ⟨r16, hr16⟩ : ∃ r16, i % 16 = r16 := ⟨_, rfl⟩
          obtain ⟨c1, hc1⟩ : ∃ c1, i % 16 + 1 = c1 := ⟨_, rfl⟩
          have hnext := offN_next (K := 4) (r := 0) HF.out.2.2.2.2
          rw [hc1] at hP5 hnext
          cases r with
          | some m1 =>
            have HD := Aside0.mk (And.intro (Done_any w5 _ _ _ _ _ _ _ _ hP5.is) hB5)
            have he : hE (some m1) = 0 := rfl
            rw [he]
            clear hP5 hrow5 hB5 hnext hr16 hc1 he
            go_wp2_with (go_at_call 12; refine HD.out.1.mono ?_; rintro e w6 ⟨rfl, rfl⟩)
            go_ret
            exact ⟨rfl, HD.out.2⟩
          | none =>
            have HD := Aside0.mk (And.intro (Came_any w5 _ _ _ _ _ _ _ _ hP5.is) (And.intro (Len_any w5 _ _ _ _ _ _ _ _ hP5.is) (And.intro hrow5 (And.intro hB5 (And.intro hP5 hnext)))))
            have he : hE none = 12 := rfl
            rw [he]
            have hm16 : (i : Int).tmod 16 = (r16 : Int) := by rw [Int.tmod_eq_emod_of_nonneg (by omega)]; omega
            have hm16b : (r16 : Int) < 16 := by omega
            have hm16c : (0 : Int) ≤ (r16 : Int) := by omega
            have hc1i : (r16 : Int) + 1 = (c1 : Int) := by omega
            clear hP5 hrow5 hB5 hnext hr16 hc1 he
            go_wp2_with (first
              | (go_at_call 17; refine HD.out.1.mono ?_; rintro e w6 ⟨rfl, rfl⟩)
              | (go_at_call 18; refine HD.out.2.1.mono ?_; rintro e w6 ⟨rfl, rfl⟩))
            exact ⟨⟨i + 1, 4, c1, b5, sb5, X, Y, by go_num, by omega, HD.out.2.2.1, HD.out.2.2.2.1, HD.out.2.2.2.2.1, HD.out.2.2.2.2.2⟩, by simp only [intOf]; omega⟩
        · have hge2 : ¬ (i : Int) < (tm : Int) := by omega
          have HD := Aside0.mk (And.intro (Done_any wr _ _ _ _ _ _ _ _ hP.is) hB)
          clear hP hB hrow hoff
          go_wp2_with (go_at_call 12; refine HD.out.1.mono ?_; rintro e w5 ⟨rfl, rfl⟩)
          go_ret
          exact ⟨rfl, HD.out.2⟩
end Go.Proofs.YtnejnnfjbhpigaaDoor.Vit

namespace Go.Proofs.YtnejnnfjbhpigaaDoor.Vit
open Go.RowKit Go.Proofs.YtnejnnfjbhpigaaDoorW.PrintWords Go.Proofs.YtnejnnfjbhpigaaDoorW.PrintLast Go.Proofs.YtnejnnfjbhpigaaDoorW.PrintMore Go.Proofs.YtnejnnfjbhpigaaDoor.Mem Go.Proofs.YtnejnnfjbhpigaaDoor.Crc
attribute [local go_sem] max2_int min2_int max_two min_two max_three min_three max_four min_four   -- for this text's walks alone
set_option linter.unusedVariables false
set_option linter.unusedSimpArgs false

open Go.Proofs.YtnejnnfjbhpigaaDoor.Chk
theorem nats_ints {l : List Int} (h : ∀ x ∈ l, 0 ≤ x) : ints (l.map Int.toNat) = l := by
  unfold ints
  rw [List.map_map]
  refine (List.map_congr_left (fun x hx => ?_)).trans (List.map_id l)
  have := h x hx
  simp only [Function.comp, id]
  omega
theorem nats_lt {l : List Int} (h : ∀ x ∈ l, 0 ≤ x ∧ x ≤ 255) : ∀ x ∈ l.map Int.toNat, x < 256 := fun x hx => by
  obtain ⟨y, hy, rfl⟩ := List.mem_map.1 hx
  have := h y hy
  omega
theorem anew_any (A : Option Addr) (n c : Nat) (l : List Int) (nn v : Int) (w : World) (hC : (Kd.int .u8).C w A n l) (hb : ∀ x ∈ l, 0 ≤ x ∧ x ≤ 255) (hc : n ≤ c) (hl : n ≤ 140737488355328) (ht : Taps w) :
    Calls Tryd.prog 6 #[.slice A n c, .int .i64 nn, .int .i64 v] w fun e w' => e = .returned (.bool true) ∧ Below w.heap.size w w' := by
  have hi := nats_ints (fun x hx => (hb x hx).1)
  have hln := Kd.C_len hC
  have hlt := nats_lt hb
  rw [← hi] at hC
  by_cases h4 : n ≤ 4
  · exact anew_few A n c _ nn v w (by rw [List.length_map]; exact hln) hC hlt hc hl h4 ht
  · obtain ⟨g, o, hA, _⟩ := row_formK hC (by omega)
    subst hA
    have hC4 := C_part (m := 4) hC (by rw [List.length_map]; exact hln) (by omega)
    exact anew_cut _ n c _ nn v w (by rw [List.length_take, List.length_map, hln]; omega) hC4 (fun x hx => hlt x (List.mem_of_mem_take hx)) hc hl (by omega) ht
end Go.Proofs.YtnejnnfjbhpigaaDoor.Vit
