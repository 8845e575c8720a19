/- The law CombineWhole: whole versions, one or more, once or more: the list is told; behind a Reset they were never there. Each theorem says its own conditions. -/
import Derived.Test.YticiilolmkbncaaDoorWd
import Derived.Deep.CutRange
namespace Go.Proofs.YticiilolmkbncaaDoor.Vit
open Go.RowKit Go.Proofs.YticiilolmkbncaaDoorW.PrintWords Go.Proofs.YticiilolmkbncaaDoorW.PrintLast Go.Proofs.YticiilolmkbncaaDoorW.PrintMore Go.Proofs.YticiilolmkbncaaDoor.Mem
attribute [local go_sem] max2_int min2_int max_two min_two max_three min_three max_four min_four   -- for this text's walks alone
set_option linter.unusedVariables false
set_option linter.unusedSimpArgs false

theorem addr_add_block (a : Addr) (j : Nat) : (a.add j).block = a.block := by
  unfold Addr.add
  split <;> rfl
/-- A row of other blocks reads as it did. -/
theorem C_chg {k : IntKind} {S : Nat → Prop} {w w' : World} {A : Option Addr} {n : Nat} {xs : List Int} (hC : (Kd.int k).C w A n xs) (hc : Chg S w w') (hS : ∀ ad, A = some ad → ¬ S ad.block) : (Kd.int k).C w' A n xs := by
  obtain ⟨hl, hb, hr⟩ := hC
  refine ⟨hl, hb, fun hp => ?_⟩
  obtain ⟨ad, hA, h⟩ := hr hp
  refine ⟨ad, hA, fun j p hj => ?_⟩
  obtain ⟨cs, h1, h2, h3⟩ := h j p hj
  refine ⟨cs, h1, h2, fun i u hu => ?_⟩
  have h4 := h3 i u hu
  have hbk : ((ad.add (j * (Kd.int k).sz + i)).block) = ad.block := addr_add_block _ _
  rw [hc.cell (lies_lt h4) (by rw [hbk]; exact hS ad hA)]
  exact h4
/-- The versions that came, the last one first. -/
def vsc (os : List Int) : Nat → List Nat
  | 0 => []
  | k + 1 => ((os.getD k 0).toNat % 4) :: vsc os k
theorem vsc_len (os : List Int) : ∀ k, (vsc os k).length = k
  | 0 => rfl
  | k + 1 => by unfold vsc; rw [List.length_cons, vsc_len os k]
theorem vsc_lt (os : List Int) : ∀ k, ∀ v ∈ vsc os k, v < 4
  | 0, v, h => by simp [vsc] at h
  | k + 1, v, h => by
    unfold vsc at h
    rcases List.mem_cons.1 h with rfl | h
    · omega
    · exact vsc_lt os k v h
theorem bump_le {cs : Nat → Nat} {k : Nat} (h : ∀ i, cs i ≤ k) (v : Nat) : ∀ i, bump cs v i ≤ k + 1 := fun i => by
  have h1 := h v
  have h2 := h i
  unfold bump
  split <;> omega
theorem u64_mod4 (x : Int) : ∃ v : Nat, v < 4 ∧ (IntKind.u64.wrap x).tmod 4 = (v : Int) := by
  have h0 : 0 ≤ IntKind.u64.wrap x := by have := IntKind.wrap_u64 x; omega
  refine ⟨((IntKind.u64.wrap x).tmod 4).toNat, ?_, ?_⟩ <;> (rw [Int.tmod_eq_emod_of_nonneg h0]; omega)
set_option maxHeartbeats 6400000 in
set_option maxRecDepth 100000 in
theorem cwhole_any (A B F : Option Addr) (n0 c0 n1 c1 n2 c2 : Nat) (xs os : List Int) (row : List (Bool × Int × List Int × List Int)) (w : World) (hA : (Kd.int .u8).C w A n0 xs) (hx : ∀ x ∈ xs, 0 ≤ x) (hc0 : n0 ≤ c0) (hn0 : n0 ≤ 140737488355327)
    (hB : (Kd.int .u8).C w B n1 os) (ho : ∀ x ∈ os, 0 ≤ x ∧ x ≤ 255) (hn1 : n1 ≤ 140737488355327) (hF : DC.C w F n2 row) (hn2 : n2 ≤ 140737488355327) (ht : Taps w) :
    Calls Tryd.prog 10 #[.slice A n0 c0, .slice B n1 c1, .slice F n2 c2] w fun e w' => e = .returned (.bool true) ∧ Below w.heap.size w w' := by
  have hfew := Few1_any xs hx A n0 c0 40 w hA hc0 hn0 (by decide)
  obtain ⟨m, hmm⟩ : ∃ m, few1 xs 40 = m := ⟨_, rfl⟩
  have hmb : Bits m := by rw [← hmm]; exact few1_bits _ _
  have hml : m.length ≤ 40 := by rw [← hmm, few1_len]; omega
  rw [hmm] at hfew
  obtain ⟨n, hn⟩ : ∃ n, m.length = n := ⟨_, rfl⟩
  rw [hn] at hml
  have HT := Aside0.mk (And.intro ht (And.intro hfew (And.intro hmb (And.intro hn (And.intro hB (And.intro ho hF))))))
  clear hfew hmm hmb hn hB ho hF hA hx ht hc0 hn0
  go_enter Tryd.func10, Tryd.ntmps10
  go_upto_region 2 with (go_at_call 21; refine HT.out.2.1.mono ?_; rintro e w1 ⟨v1, rfl, hR1, hB1⟩; have H1 := Aside0.mk (And.intro hR1 hB1); clear hR1 hB1)
  obtain ⟨A1, c1', e1, hc1, hC1⟩ := Kd.R_reads H1.out.1
  rw [ints_len, HT.out.2.2.2.1] at e1 hc1 hC1
  subst e1
  have hA1b : ∀ ad, A1 = some ad → ad.block < w1.heap.size := fun ad had => ((Kd.R_bound H1.out.1).1 ad.block (by rw [had]; rfl)).2.2.1
  go_upto_region 3 with (go_at_call 25; refine (New_any n (by omega) _).mono ?_; rintro e w2 ⟨rfl, hI2, hB2⟩; have H2 := Aside0.mk (And.intro hI2 hB2); clear hI2 hB2)
  obtain ⟨b, hb⟩ : ∃ b, w1.heap.size = b := ⟨_, rfl⟩
  have hI2 := H2.out.1
  rw [hb] at hI2 hA1b ⊢
  have hbw : w.heap.size ≤ b := by have := H1.out.2.size; omega
  have hBw2 := H1.out.2.trans (H2.out.2.mono H1.out.2.size)
  have hcb := combines_any w2 (HT.out.1.below hBw2)
  have H3 := Aside0.mk (And.intro hI2 (And.intro hBw2 (And.intro hcb (And.intro (Kd.C_below hC1 H2.out.2) hA1b))))
  clear hb hI2 hBw2 hcb hC1 hA1b
  go_upto_region 5 with (go_at_call 26; refine H3.out.2.2.1.mono ?_; rintro e w3 ⟨rfl, hB3⟩; have HB3 := Aside0.mk hB3; clear hB3)
  have hI3 := H3.out.1.below HB3.out
  have hC3 := Kd.C_below H3.out.2.2.2.1 HB3.out
  have hBw3 := H3.out.2.1.trans (HB3.out.mono H3.out.2.1.size)
  have H4 := Aside0.mk (And.intro hI3 (And.intro hC3 hBw3))
  clear hI3 hC3 hBw3
  go_wp2_with fail
  go_loopw [9, 10] (fun i _ wr => ∃ k : Nat, i = .int .i64 k ∧ k ≤ 5 ∧ k ≤ n2 ∧ (∃ ys cs, IsBuf wr b (b + 1) n ys cs ∧ ∀ i, cs i ≤ k) ∧ (Kd.int .u8).C wr A1 n (ints m) ∧ Below w.heap.size w wr) (fun i _ _ => 5 - (intOf i).toNat)
  case atStart => exact ⟨0, rfl, by omega, by omega, ⟨_, _, H4.out.1, fun i => Nat.le_refl _⟩, H4.out.2.1, H4.out.2.2⟩
  case round =>
    obtain ⟨k, rfl, hk5, hkn, ⟨ys, cs, hI, hcs⟩, hC, hBw⟩ := hrel
    have HR := Aside0.mk (And.intro hI (And.intro hcs (And.intro hC hBw)))
    clear hI hcs hC
    go_upto_region 6 with fail
    go_cut [36] from 29 to 36 (fun s wx => s = .bool (decide (k < n2 ∧ k < 5)) ∧ wx = wr)
    case first =>
      by_cases h1 : k < n2
      · have h1' : (k : Int) < (n2 : Int) := by omega
        by_cases h2 : k < 5
        · have h2' : (k : Int) < 5 := by omega
          have d1 : decide ((k : Int) < 5) = true := decide_eq_true h2'
          have d2 : decide (k < 5) = true := decide_eq_true h2
          have D3 := Aside0.mk (show decide (k < n2 ∧ k < 5) = true from decide_eq_true ⟨h1, h2⟩)
          go_wp2_with fail
          go_meet
          exact ⟨by rw [D3.out], rfl⟩
        · have h2' : ¬ (k : Int) < 5 := by omega
          have d1 : decide ((k : Int) < 5) = false := decide_eq_false h2'
          have d2 : decide (k < 5) = false := decide_eq_false h2
          have D3 := Aside0.mk (show decide (k < n2 ∧ k < 5) = false from decide_eq_false (fun h => h2 h.2))
          go_wp2_with fail
          go_meet
          exact ⟨by rw [D3.out], rfl⟩
      · have h1' : ¬ (k : Int) < (n2 : Int) := by omega
        have D3 := Aside0.mk (show decide (k < n2 ∧ k < 5) = false from decide_eq_false (fun h => h1 h.1))
        go_wp2_with fail
        go_meet
        exact ⟨by rw [D3.out], rfl⟩
    case rest =>
      obtain ⟨rfl, rfl⟩ := hcut
      by_cases hk : k < n2 ∧ k < 5
      · rw [decide_eq_true hk]
        obtain ⟨hkn2, hk55⟩ := hk
        obtain ⟨ad, r, vv, at_, raw, Aa, ca, Ar, cr, hF, hrow, hle, hCa, hle2, hCr, e0, e1, e2, e3⟩ := came_at HT.out.2.2.2.2.2.2 k hkn2
        subst hF
        have g0 := below_cell hBw e0
        have g1 := below_cell hBw e1
        have g2 := below_cell hBw e2
        have g3 := below_cell hBw e3
        obtain ⟨v, hv4, hv⟩ := u64_mod4 vv
        have hw1 : wrap64 (v : Int) = (v : Int) := wrap64_in _ (by omega) (by omega)
        have hat : at_.length ≤ 9223372036854775807 := hCa.2.1
        have hpart := part_any m HT.out.2.2.1 n HT.out.2.2.2.1 (by omega) v hv4 r vv at_ Aa Ar A1 at_.length ca raw.length cr c1' rfl hle hat wc (Kd.C_below hCa hBw) HR.out.2.2.1 hc1
        have HP := Aside0.mk (And.intro hpart hv4)
        clear hCa hCr hrow hle hle2 e0 e1 e2 e3 hat hpart hBw hv4
        go_upto_region 9 with fail
        go_wp2_with (first | (go_at_call 27; refine HP.out.1.mono ?_; rintro e w5 ⟨u5, rfl, hR5, hB5⟩; obtain ⟨A5, c5, e5, hc5, hC5⟩ := Kd.R_reads hR5; rw [ints_len, partl_len, HT.out.2.2.2.1] at e5 hc5 hC5; subst e5; have H5 := Aside0.mk (And.intro hc5 (And.intro hC5 hB5)); clear hR5 hc5 hC5 hB5) | (go_at_call 28; refine (Add_ok w5 b (b + 1) n ys cs (HR.out.1.below H5.out.2.2) v HP.out.2 (Nat.le_trans (HR.out.2.1 v) (by omega)) (partl m at_ v) (partl_bits HT.out.2.2.1 at_ v) (by rw [partl_len, HT.out.2.2.2.1]) A5 c5 H5.out.2.1 H5.out.1).mono ?_; rintro e w6 ⟨rfl, hI6, hC6⟩; have H6 := Aside0.mk (And.intro hI6 hC6); clear hI6 hC6))
        have hB6 : Below w.heap.size w w6 := by
          have h1 := HR.out.2.2.2.trans (H5.out.2.2.mono HR.out.2.2.2.size)
          exact h1.trans (H6.out.2.below h1.size (fun i hi => by omega))
        have hC6 : (Kd.int .u8).C w6 A1 n (ints m) := C_chg (Kd.C_below HR.out.2.2.1 H5.out.2.2) H6.out.2 (fun ad had hs => by have := H3.out.2.2.2.2 ad had; omega)
        exact ⟨⟨k + 1, by go_num, by omega, by omega, ⟨_, _, H6.out.1, bump_le HR.out.2.1 v⟩, hC6, hB6⟩, by simp only [intOf]; omega⟩
      · rw [decide_eq_false hk]
        clear hkn hk5 hk
        go_upto_region 12 with (go_at_call 32; refine (Reset_any b n _ _ _ _ _ wc HR.out.1.blk HR.out.1.le).mono ?_; rintro e w7 ⟨rfl, hI7, hC7⟩; have H7 := Aside0.mk (And.intro hI7 hC7); clear hI7 hC7)
        obtain ⟨s2, hs2⟩ : ∃ s2, wc.heap.size = s2 := ⟨_, rfl⟩
        have hI7 := H7.out.1
        rw [hs2] at hI7
        have hbs2 : b < s2 := by rw [← hs2]; exact blk_lt HR.out.1.blk
        have hB7 : Below w.heap.size w w7 := by
          have h1 := HR.out.2.2.2
          exact h1.trans (H7.out.2.below h1.size (fun i hi => by omega))
        have hC7 : (Kd.int .u8).C w7 A1 n (ints m) := C_chg HR.out.2.2.1 H7.out.2 (fun ad had hs => by have := H3.out.2.2.2.2 ad had; omega)
        have H8 := Aside0.mk (And.intro hI7 (And.intro hC7 (And.intro hB7 hbs2)))
        clear hs2 hI7 hB7 hC7
        go_wp2_with fail
        go_loopw [11, 12] (fun i _ wr => ∃ k : Nat, i = .int .i64 k ∧ k ≤ 9 ∧ k ≤ n1 ∧ (∃ cs, IsBuf wr b s2 n (softs (n + 6) (whole (code m) (n + 6) (vsc os k))) cs ∧ ∀ i, cs i ≤ k) ∧ (Kd.int .u8).C wr A1 n (ints m) ∧ Below w.heap.size w wr) (fun i _ _ => 9 - (intOf i).toNat)
        case atStart => exact ⟨0, rfl, by omega, by omega, ⟨_, H8.out.1, fun i => Nat.le_refl _⟩, H8.out.2.1, H8.out.2.2.1⟩
        case round =>
          clear HR
          obtain ⟨k, rfl, hk9, hkn, ⟨cs, hI, hcs⟩, hC, hBw⟩ := hrel
          have HR := Aside0.mk (And.intro hI (And.intro hcs (And.intro hC hBw)))
          clear hI hcs hC
          go_upto_region 13 with fail
          go_cut [67] from 60 to 67 (fun s wx => s = .bool (decide (k < n1 ∧ k < 9)) ∧ wx = wr)
          case first =>
            by_cases h1 : k < n1
            · have h1' : (k : Int) < (n1 : Int) := by omega
              by_cases h2 : k < 9
              · have h2' : (k : Int) < 9 := by omega
                have d1 : decide ((k : Int) < 9) = true := decide_eq_true h2'
                have d2 : decide (k < 9) = true := decide_eq_true h2
                have D3 := Aside0.mk (show decide (k < n1 ∧ k < 9) = true from decide_eq_true ⟨h1, h2⟩)
                go_wp2_with fail
                go_meet
                exact ⟨by rw [D3.out], rfl⟩
              · have h2' : ¬ (k : Int) < 9 := by omega
                have d1 : decide ((k : Int) < 9) = false := decide_eq_false h2'
                have d2 : decide (k < 9) = false := decide_eq_false h2
                have D3 := Aside0.mk (show decide (k < n1 ∧ k < 9) = false from decide_eq_false (fun h => h2 h.2))
                go_wp2_with fail
                go_meet
                exact ⟨by rw [D3.out], rfl⟩
            · have h1' : ¬ (k : Int) < (n1 : Int) := by omega
              have D3 := Aside0.mk (show decide (k < n1 ∧ k < 9) = false from decide_eq_false (fun h => h1 h.1))
              go_wp2_with fail
              go_meet
              exact ⟨by rw [D3.out], rfl⟩
          case rest =>
            obtain ⟨rfl, rfl⟩ := hcut
            by_cases hk : k < n1 ∧ k < 9
            · rw [decide_eq_true hk]
              obtain ⟨hkn1, hk99⟩ := hk
              obtain ⟨ad, hA, hcell⟩ := Kd.at_int (Kd.C_below HT.out.2.2.2.2.1 hBw) (k : Int) (by omega) (by omega)
              cases hA
              have hol : os.length = n1 := Kd.C_len HT.out.2.2.2.2.1
              have hkl : k < os.length := by omega
              rw [rd_at hkl, Int.toNat_natCast] at hcell
              have hxm := HT.out.2.2.2.2.2.1 os[k] (List.getElem_mem hkl)
              have hgd : os.getD k 0 = os[k] := by rw [List.getD_eq_getElem?_getD, List.getElem?_eq_getElem hkl]; rfl
              obtain ⟨x, hx⟩ : ∃ x, os[k] = x := ⟨_, rfl⟩
              rw [hx] at hcell hxm hgd
              obtain ⟨v, hv⟩ : ∃ v, x.toNat % 4 = v := ⟨_, rfl⟩
              have hv4 : v < 4 := by omega
              have hvv : x.tmod 4 = (v : Int) := by rw [Int.tmod_eq_emod_of_nonneg hxm.1]; omega
              have hvs : vsc os (k + 1) = v :: vsc os k := by show (os.getD k 0).toNat % 4 :: vsc os k = _; rw [hgd, hv]
              have hw8 : IntKind.u8.wrap (v : Int) = (v : Int) := by rw [IntKind.wrap_u8]; omega
              have hwi : wrap64 (v : Int) = (v : Int) := wrap64_in _ (by omega) (by omega)
              have hcode := Code_any m HT.out.2.2.1 A1 c1' wc (by rw [HT.out.2.2.2.1]; exact HR.out.2.2.1) (by rw [HT.out.2.2.2.1]; exact hc1) (by rw [HT.out.2.2.2.1]; omega)
              rw [HT.out.2.2.2.1] at hcode
              have HC := Aside0.mk (And.intro hcode (And.intro hvs hv4))
              clear hcode hvs hv4 hv hgd hx hxm hkl hol hBw
              obtain ⟨K, hK⟩ : ∃ K, 4 * (n + 6) = K := ⟨_, rfl⟩
              have hcl : (code m).length = K := by rw [code_len, HT.out.2.2.2.1, hK]
              have HKK := Aside0.mk (And.intro hK hcl)
              clear hK hcl
              go_wp2_with fail
              refine HC.out.1.mono ?_
              rintro e w4 ⟨u4, rfl, hR4, hB4⟩
              obtain ⟨A4, c4, e4, hc4, hC4⟩ := Kd.R_reads hR4
              rw [ints_len, HKK.out.2] at e4 hc4 hC4
              subst e4
              have hpick := Pick_any (code m) v (n + 6) K HC.out.2.2 HKK.out.2 HKK.out.1.symm (by omega) A4 c4 w4 hC4 hc4
              have H4' := Aside0.mk (And.intro hB4 hpick)
              clear hR4 hB4 hc4 hC4 hpick
              go_wp2_with fail
              refine H4'.out.2.mono ?_
              rintro e w5 ⟨u5, rfl, hR5, hB5⟩
              obtain ⟨A5, c5, e5, hc5, hC5⟩ := Kd.R_reads hR5
              rw [ints_len, pickl_len] at e5 hc5 hC5
              subst e5
              have hB45 := H4'.out.1.trans (hB5.mono H4'.out.1.size)
              have hadd := Add_ok w5 b s2 n _ _ (HR.out.1.below hB45) v HC.out.2.2 (Nat.le_trans (HR.out.2.1 v) (by omega)) (pickl (code m) v (n + 6)) (pickl_bits (code_bits m) v (n + 6)) (pickl_len _ _ _) A5 c5 hC5 hc5
              have H5 := Aside0.mk (And.intro hB45 hadd)
              clear hR5 hB5 hc5 hC5 hadd hB45
              go_wp2_with fail
              refine H5.out.2.mono ?_
              rintro e w6 ⟨rfl, hI6, hC6⟩
              have H6 := Aside0.mk (And.intro hI6 hC6)
              clear hI6 hC6
              go_wp2_with fail
              have hB6 : Below w.heap.size w w6 := by
                have h1 := HR.out.2.2.2.trans (H5.out.1.mono HR.out.2.2.2.size)
                exact h1.trans (H6.out.2.below h1.size (fun i hi => by omega))
              have hC6 : (Kd.int .u8).C w6 A1 n (ints m) := C_chg (Kd.C_below HR.out.2.2.1 H5.out.1) H6.out.2 (fun ad had hs => by have := H3.out.2.2.2.2 ad had; omega)
              refine ⟨⟨k + 1, by go_num, by omega, by omega, ⟨_, ?_, bump_le HR.out.2.1 v⟩, hC6, hB6⟩, by simp only [intOf]; omega⟩
              rw [HC.out.2.1]
              exact H6.out.1
            · rw [decide_eq_false hk]
              have hdec := BDecode_any wc b s2 n _ _ HR.out.1 (HT.out.1.below HR.out.2.2.2)
              by_cases hn10 : n1 = 0
              · obtain rfl : k = 0 := by omega
                subst hn10
                have hz : decOf (softs (n + 6) (whole (code m) (n + 6) (vsc os 0))) = (ints (zs n), 0, 0) := decOf_zero (by omega)
                rw [hz] at hdec
                have HD := Aside0.mk hdec
                clear hdec hz hk hkn hk9 hBw
                obtain ⟨Z5, hZ5⟩ : ∃ Z5, madeCells #[Value.int .u8 0] n = Z5 := ⟨_, rfl⟩
                have hmb := make_byte n (by omega)
                rw [hZ5] at hmb
                obtain ⟨S, hS⟩ : ∃ S, strOfNums (List.replicate n 0) = S := ⟨_, rfl⟩
                have hb1 : ∀ (W : World) q, (convert 25 9 (.slice (some ⟨W.heap.size, 0, none⟩) n n)).run Tryd.prog ((W.alloc (.cells Z5 5)).drewN q) = .ok (.string S) ((W.alloc (.cells Z5 5)).drewN q) := by
                  intro W q
                  rw [← hS]
                  exact Kd.C_string Tryd.underlying25 Tryd.underlying5 Tryd.underlying9 (made_C (by omega) (by rw [hZ5]; exact heap_alloc_new W _))
                have HS := Aside0.mk (And.intro hS hZ5)
                clear hS hZ5
                go_upto_region 20 with (go_at_call 31; refine HD.out.mono ?_; rintro e w9 ⟨u9, rfl, hR9, hB9⟩; have H9 := Aside0.mk (And.intro hR9 hB9); clear hR9 hB9)
                obtain ⟨A9, c9, e9, hc9, hC9⟩ := Kd.R_reads H9.out.1
                rw [ints_len, zs_len] at e9 hC9
                subst e9
                rw [ints_zs] at hC9
                have kb0 : (convert 25 9 (.slice A9 n c9)).run Tryd.prog w9.drew = .ok (.string S) w9.drew := by
                  rw [← HS.out.1]
                  exact Kd.C_string Tryd.underlying25 Tryd.underlying5 Tryd.underlying9 (Kd.C_drew hC9)
                have kb1 : (convert 25 9 (.slice A9 n c9)).run Tryd.prog ((w9.alloc (.cells Z5 5)).drew) = .ok (.string S) ((w9.alloc (.cells Z5 5)).drew) := by
                  rw [← HS.out.1]
                  exact Kd.C_string Tryd.underlying25 Tryd.underlying5 Tryd.underlying9 (Kd.C_drew (Kd.C_alloc hC9 _))
                have km : (convert 25 9 (.slice (some ⟨w9.heap.size, 0, none⟩) n n)).run Tryd.prog ((w9.alloc (.cells Z5 5)).drew) = .ok (.string S) ((w9.alloc (.cells Z5 5)).drew) := hb1 w9 1
                clear hb1 hC9 hc9
                go_region_held (fun w' => (convert 25 9 (.slice A9 n c9)).run Tryd.prog w' = .ok (.string S) w') (first | exact kb1 | exact kb0 | go_keep) (fail)
                all_goals go_wp2_with fail
                all_goals go_ret
                all_goals exact ⟨rfl, HR.out.2.2.2.trans ((pw_below_drewN (below_alloc H9.out.2 _) 1).mono HR.out.2.2.2.size)⟩
              · have hne : vsc os k ≠ [] := fun h => by
                  have h1 := vsc_len os k
                  rw [h] at h1
                  simp at h1
                  omega
                have htold := whole_told (m := m) (n := n) HT.out.2.2.2.1 HT.out.2.2.1 (by omega) (vsc os k) (vsc_lt os k) hne (by rw [vsc_len]; omega)
                obtain ⟨S4, hS4⟩ : ∃ S4, softs (n + 6) (whole (code m) (n + 6) (vsc os k)) = S4 := ⟨_, rfl⟩
                rw [hS4] at htold hdec
                rw [htold.1, htold.2] at hdec
                have HD := Aside0.mk hdec
                have hn1' : ((n1 : Int) == 0) = false := by simpa using hn10
                obtain ⟨S, hS⟩ : ∃ S, strOfNums (ints m) = S := ⟨_, rfl⟩
                have HS := Aside0.mk hS
                clear hdec htold hS4 hne hk hkn hk9 hBw hS
                go_upto_region 21 with (go_at_call 31; refine HD.out.mono ?_; rintro e w9 ⟨u9, rfl, hR9, hB9⟩; have H9 := Aside0.mk (And.intro hR9 hB9); clear hR9 hB9)
                obtain ⟨A9, c9, e9, hc9, hC9⟩ := Kd.R_reads H9.out.1
                rw [ints_len, HT.out.2.2.2.1] at e9 hC9
                subst e9
                have k1 : (convert 25 9 (.slice A9 n c9)).run Tryd.prog w9 = .ok (.string S) w9 := by rw [← HS.out]; exact Kd.C_string Tryd.underlying25 Tryd.underlying5 Tryd.underlying9 hC9
                have k2 : (convert 25 9 (.slice A1 n c1')).run Tryd.prog w9 = .ok (.string S) w9 := by rw [← HS.out]; exact Kd.C_string Tryd.underlying25 Tryd.underlying5 Tryd.underlying9 (Kd.C_below HR.out.2.2.1 H9.out.2)
                clear hC9 hc9
                go_wp2_with fail
                go_ret
                exact ⟨rfl, HR.out.2.2.2.trans (H9.out.2.mono HR.out.2.2.2.size)⟩
end Go.Proofs.YticiilolmkbncaaDoor.Vit
