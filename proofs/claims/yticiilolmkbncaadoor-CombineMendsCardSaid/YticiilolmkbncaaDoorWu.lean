/- The law CombineMends: if of all that came no more bits were turned than half of the least that codes are apart says, the list is told. Each theorem says its own conditions. -/
import Derived.Test.YticiilolmkbncaaDoorWt
import Derived.Test.YticiilolmkbncaaDoorWn
import Derived.Test.YticiilolmkbncaaDoorWe
import Derived.Test.YticiilolmkbncaaDoorWf
namespace Go.Proofs.YticiilolmkbncaaDoor.Vit
open Go.RowKit Go.Proofs.YticiilolmkbncaaDoorW.PrintWords Go.Proofs.YticiilolmkbncaaDoorW.PrintLast Go.Proofs.YticiilolmkbncaaDoorW.PrintMore Go.Proofs.YticiilolmkbncaaDoor.Mem
attribute [local go_sem] max2_int min2_int max_two min_two max_three min_three max_four min_four   -- for this text's walks alone
set_option linter.unusedVariables false
set_option linter.unusedSimpArgs false

theorem apart_le : ∀ a b : List Nat, apart a b ≤ a.length
  | [], _ => by simp [apart]
  | _ :: _, [] => by simp [apart]
  | x :: a, y :: b => by
    have := apart_le a b
    simp only [apart, List.length_cons]
    split <;> omega
theorem turned_le (c : List Nat) (L : Nat) : ∀ rs : List (Nat × List Nat), (∀ q ∈ rs, q.2.length = L) → turned c L rs ≤ rs.length * L
  | [], _ => by simp [turned]
  | (v, p) :: rs, h => by
    have ih := turned_le c L rs (fun q hq => h q (List.mem_cons_of_mem _ hq))
    have h1 := apart_le p ((List.range L).map fun t => c.getD (place v t) 0)
    have h2 := h (v, p) List.mem_cons_self
    simp only [turned, List.length_cons, Nat.succ_mul]
    simp only at h2
    omega
theorem fourW_set (w : Nat → Nat) {v : Nat} (hv : v < 4) : (fourW w).setIfInBounds v (.int .i64 ((w v : Nat) + 1)) = fourW (bump w v) := by
  match v, hv with
  | 0, _ => rfl
  | 1, _ => rfl
  | 2, _ => rfl
  | 3, _ => rfl
/-- What the loop knows. -/
structure MR (w : World) (b g n : Nat) (m : List Nat) (A1 : Option Addr) (k : Nat) (rs : List (Nat × List Nat)) (W : World) : Prop where
  buf : IsBuf W b (b + 1) n (softs (n + 6) rs) (fun i => cnt i rs)
  few : rs.length ≤ k
  ver : ∀ q ∈ rs, q.1 < 4
  bits : ∀ q ∈ rs, Bits q.2
  len : ∀ q ∈ rs, q.2.length = n + 6
  most : ∀ v, cnt v rs ≤ 7
  box : W.heap[g]? = some (.cells (fourW (fun v => cnt v rs)) 47 (0, 0))
  row : (Kd.int .u8).C W A1 n (ints m)
  below : Below w.heap.size w W
theorem chg_put (w : World) (g v : Nat) (x : Value) : Chg (fun k => k = g) w (w.setCell ⟨g, v, none⟩ x) := Chg.set_ (S := fun k => k = g) (Chg.refl _ _) (fun _ => rfl) _
theorem MR.step {w W : World} {b g n k v : Nat} {m p : List Nat} {A1 : Option Addr} {rs : List (Nat × List Nat)} (hR : MR w b g n m A1 k rs W) {w6 : World} (hv : v < 4) (hI : IsBuf w6 b (b + 1) n (addv (softs (n + 6) rs) v p (n + 6)) (bump (fun i => cnt i rs) v)) (hB : Below w.heap.size w w6) (hC : (Kd.int .u8).C w6 A1 n (ints m))
    (hbox : w6.heap[g]? = some (.cells (fourW (fun v => cnt v rs)) 47 (0, 0))) (hp : Bits p) (hpl : p.length = n + 6) (h7 : cnt v rs < 7) (hg : b + 1 < g) (hbw : w.heap.size ≤ b) (hA : ∀ ad, A1 = some ad → ad.block < b) :
    MR w b g n m A1 (k + 1) ((v, p) :: rs) (w6.setCell ⟨g, v, none⟩ (.int .i64 ((cnt v rs : Nat) + 1))) where
  buf := by
    rw [bump_cnt rs v p] at hI
    exact hI.chg (chg_put _ g v _) (by omega) (by omega)
  few := by have := hR.few; rw [List.length_cons]; omega
  ver := fun q hq => (List.mem_cons.1 hq).elim (fun h => by rw [h]; exact hv) (hR.ver q)
  bits := fun q hq => (List.mem_cons.1 hq).elim (fun h => by rw [h]; exact hp) (hR.bits q)
  len := fun q hq => (List.mem_cons.1 hq).elim (fun h => by rw [h]; exact hpl) (hR.len q)
  most := fun u => by
    have := hR.most u
    simp only [cnt]
    split
    · rename_i h
      subst h
      omega
    · omega
  box := by
    have h := blk_set hbox v (.int .i64 ((cnt v rs : Nat) + 1))
    rw [fourW_set (fun v => cnt v rs) hv, bump_cnt rs v p] at h
    exact h
  row := C_chg hC (chg_put _ g v _) (fun ad had hs => by have := hA ad had; omega)
  below := hB.setCell (by show w.heap.size ≤ g; omega) _
theorem MR.full {w W W' : World} {b g n k : Nat} {m : List Nat} {A1 : Option Addr} {rs : List (Nat × List Nat)} (hR : MR w b g n m A1 k rs W) (hB : Below W.heap.size W W') : MR w b g n m A1 k rs W' :=
  ⟨hR.buf.below hB, hR.few, hR.ver, hR.bits, hR.len, hR.most, below_cell_blk hB hR.box, Kd.C_below hR.row hB, hR.below.trans (hB.mono hR.below.size)⟩
set_option maxHeartbeats 6400000 in
set_option maxRecDepth 100000 in
theorem cmends_any (A F : Option Addr) (n0 c0 n2 c2 : Nat) (xs : List Int) (row : List (Bool × Int × List Int × List Int)) (w : World) (hA : (Kd.int .u8).C w A n0 xs) (hx : ∀ x ∈ xs, 0 ≤ x) (hc0 : n0 ≤ c0) (hn0 : n0 ≤ 140737488355327)
    (hF : DC.C w F n2 row) (hn2 : n2 ≤ 140737488355327) (ht : Taps w) :
    Calls Tryd.prog 9 #[.slice A n0 c0, .slice F n2 c2] w fun e w' => e = .returned (.bool true) ∧ Below w.heap.size w w' := by
  have hfew := Few1_any xs hx A n0 c0 40 w hA hc0 hn0 (by decide)
  obtain ⟨m, hmm⟩ : ∃ m, few1 xs 40 = m := ⟨_, rfl⟩
  have hmb : Bits m := by rw [← hmm]; exact few1_bits _ _
  have hml : m.length ≤ 40 := by rw [← hmm, few1_len]; omega
  rw [hmm] at hfew
  obtain ⟨n, hn⟩ : ∃ n, m.length = n := ⟨_, rfl⟩
  rw [hn] at hml
  have HT := Aside0.mk (And.intro ht (And.intro hfew (And.intro hmb (And.intro hn hF))))
  clear hfew hmm hmb hn hF hA hx ht hc0 hn0
  go_enter Tryd.func9, Tryd.ntmps9
  go_upto_region 2 with (go_at_call 21; refine HT.out.2.1.mono ?_; rintro e w1 ⟨v1, rfl, hR1, hB1⟩; have H1 := Aside0.mk (And.intro hR1 hB1); clear hR1 hB1)
  obtain ⟨A1, c1', e1, hc1, hC1⟩ := Kd.R_reads H1.out.1
  rw [ints_len, HT.out.2.2.2.1] at e1 hc1 hC1
  subst e1
  have hA1b : ∀ ad, A1 = some ad → ad.block < w1.heap.size := fun ad had => ((Kd.R_bound H1.out.1).1 ad.block (by rw [had]; rfl)).2.2.1
  go_upto_region 3 with (go_at_call 25; refine (New_any n (by omega) _).mono ?_; rintro e w2 ⟨rfl, hI2, hB2⟩; have H2 := Aside0.mk (And.intro hI2 hB2); clear hI2 hB2)
  obtain ⟨b, hb⟩ : ∃ b, w1.heap.size = b := ⟨_, rfl⟩
  have hI2 := H2.out.1
  rw [hb] at hI2 hA1b ⊢
  have hbw : w.heap.size ≤ b := by have := H1.out.2.size; omega
  have hBw2 := H1.out.2.trans (H2.out.2.mono H1.out.2.size)
  have hcb := combines_any w2 (HT.out.1.below hBw2)
  have H3 := Aside0.mk (And.intro hI2 (And.intro hBw2 (And.intro hcb (And.intro (Kd.C_below hC1 H2.out.2) hA1b))))
  clear hb hI2 hBw2 hcb hC1 hA1b
  go_upto_region 5 with (go_at_call 26; refine H3.out.2.2.1.mono ?_; rintro e w3 ⟨rfl, hB3⟩; have HB3 := Aside0.mk hB3; clear hB3)
  have hI3 := H3.out.1.below HB3.out
  have hC3 := Kd.C_below H3.out.2.2.2.1 HB3.out
  have hBw3 := H3.out.2.1.trans (HB3.out.mono H3.out.2.1.size)
  obtain ⟨g, hg⟩ : ∃ g, w3.heap.size = g := ⟨_, rfl⟩
  have hgb : b + 1 < g := by rw [← hg]; exact blk_lt hI3.row
  have hM0 : MR w b g n m A1 0 [] (w3.alloc (.cells (fourW (fun v => cnt v [])) 47)) :=
    ⟨hI3.below (below_alloc (Below.refl _ _) _), Nat.le_refl _, fun q hq => by simp at hq, fun q hq => by simp at hq, fun q hq => by simp at hq, fun v => by simp [cnt], by rw [← hg]; exact heap_alloc_new _ _, Kd.C_alloc hC3 _, hBw3.trans ((below_alloc (Below.refl _ _) _).mono hBw3.size)⟩
  have H4 := Aside0.mk (And.intro hM0 hg)
  clear hI3 hC3 hBw3 hM0 hg
  go_wp2_with fail
  rw [H4.out.2]
  go_loopw [8, 9] (fun x y wr => ∃ (k : Nat) (rs : List (Nat × List Nat)), x = .int .i64 (turned (code m) (n + 6) rs : Nat) ∧ y = .int .i64 k ∧ k ≤ 12 ∧ k ≤ n2 ∧ MR w b g n m A1 k rs wr) (fun _ y _ => 12 - (intOf y).toNat)
  case atStart => exact ⟨0, [], rfl, rfl, by omega, by omega, H4.out.1⟩
  case round =>
    clear H4
    obtain ⟨k, rs, rfl, rfl, hk12, hkn, hM⟩ := hrel
    have HR := Aside0.mk hM
    clear hM
    go_upto_region 8 with fail
    go_cut [35] from 28 to 35 (fun s wx => s = .bool (decide (k < n2 ∧ k < 12)) ∧ wx = wr)
    case first =>
      by_cases h1 : k < n2
      · have h1' : (k : Int) < (n2 : Int) := by omega
        by_cases h2 : k < 12
        · have h2' : (k : Int) < 12 := by omega
          have d1 : decide ((k : Int) < 12) = true := decide_eq_true h2'
          have d2 : decide (k < 12) = true := decide_eq_true h2
          have D3 := Aside0.mk (show decide (k < n2 ∧ k < 12) = true from decide_eq_true ⟨h1, h2⟩)
          go_wp2_with fail
          go_meet
          exact ⟨by rw [D3.out], rfl⟩
        · have h2' : ¬ (k : Int) < 12 := by omega
          have d1 : decide ((k : Int) < 12) = false := decide_eq_false h2'
          have d2 : decide (k < 12) = false := decide_eq_false h2
          have D3 := Aside0.mk (show decide (k < n2 ∧ k < 12) = false from decide_eq_false (fun h => h2 h.2))
          go_wp2_with fail
          go_meet
          exact ⟨by rw [D3.out], rfl⟩
      · have h1' : ¬ (k : Int) < (n2 : Int) := by omega
        have D3 := Aside0.mk (show decide (k < n2 ∧ k < 12) = false from decide_eq_false (fun h => h1 h.1))
        go_wp2_with fail
        go_meet
        exact ⟨by rw [D3.out], rfl⟩
    case rest =>
      obtain ⟨rfl, rfl⟩ := hcut
      by_cases hk : k < n2 ∧ k < 12
      · rw [decide_eq_true hk]
        obtain ⟨hkn2, hk12'⟩ := hk
        obtain ⟨ad, r, vv, at_, raw, Aa, ca, Ar, cr, hF, hrow, hle, hCa, hle2, hCr, e0, e1, e2, e3⟩ := came_at HT.out.2.2.2.2 k hkn2
        subst hF
        have hBw := HR.out.below
        have g0 := below_cell hBw e0
        have g1 := below_cell hBw e1
        have g2 := below_cell hBw e2
        have g3 := below_cell hBw e3
        obtain ⟨v, hv4, hv⟩ := u64_mod4 vv
        have hat : at_.length ≤ 9223372036854775807 := hCa.2.1
        have hpart := part_any m HT.out.2.2.1 n HT.out.2.2.2.1 (by omega) v hv4 r vv at_ Aa Ar A1 at_.length ca raw.length cr c1' rfl hle hat wc (Kd.C_below hCa hBw) HR.out.row hc1
        obtain ⟨cv, hcv⟩ : ∃ cv, cnt v rs = cv := ⟨_, rfl⟩
        have gb : wc.cell? ⟨g, v, none⟩ = some (.int .i64 (cv : Nat)) := by
          have := (blk_cell HR.out.box v).trans (fourW_get (fun v => cnt v rs) v hv4)
          simp only [hcv] at this
          exact this
        have hvl : (v : Int) < 4 := by omega
        have hcv7 := HR.out.most v
        rw [hcv] at hcv7
        have HP := Aside0.mk (And.intro hpart (And.intro hv4 hcv))
        clear hCa hCr hrow hle hle2 e0 e1 e2 e3 hat hpart hBw hcv
        by_cases hc7 : cv = 7
        · obtain rfl : cv = 7 := hc7
          clear hcv7
          have hw1 : wrap64 (v : Int) = (v : Int) := wrap64_in _ (by omega) (by omega)
          go_wp2_with fail
          clear hw1
          exact ⟨⟨k + 1, rs, rfl, by go_num, by omega, by omega, ⟨HR.out.buf, Nat.le_succ_of_le HR.out.few, HR.out.ver, HR.out.bits, HR.out.len, HR.out.most, HR.out.box, HR.out.row, HR.out.below⟩⟩, by simp only [intOf]; omega⟩
        · have hb7 : ((cv : Int) == 7) = false := by rw [beq_eq_false_iff_ne]; omega
          have HC7 := Aside0.mk (show cv < 7 by omega)
          clear hc7 hcv7
          have hw1 : wrap64 (v : Int) = (v : Int) := wrap64_in _ (by omega) (by omega)
          go_wp2_with (first | (go_at_call 27; refine HP.out.1.mono ?_; rintro e w5 ⟨u5, rfl, hR5, hB5⟩; obtain ⟨A5, c5, e5, hc5, hC5⟩ := Kd.R_reads hR5; rw [ints_len, partl_len, HT.out.2.2.2.1] at e5 hc5 hC5; subst e5; have hA5 : ∀ ad, A5 = some ad → wc.heap.size ≤ ad.block := fun ad had => ((Kd.R_bound hR5).1 ad.block (by rw [had]; rfl)).2.1; have H5 := Aside0.mk (And.intro hc5 (And.intro hC5 (And.intro hB5 hA5))); clear hR5 hc5 hC5 hB5 hA5))
          clear hw1
          have hadd := Add_ok w5 b (b + 1) n _ _ (HR.out.buf.below H5.out.2.2.1) v HP.out.2.1 (by show cnt v rs ≤ 1000000; have := HR.out.most v; omega) (partl m at_ v) (partl_bits HT.out.2.2.1 at_ v) (by rw [partl_len, HT.out.2.2.2.1]) A5 c5 H5.out.2.1 H5.out.1
          obtain ⟨p, hp⟩ : ∃ p, partl m at_ v = p := ⟨_, rfl⟩
          rw [hp] at hadd
          have hpb : Bits p := by rw [← hp]; exact partl_bits HT.out.2.2.1 at_ v
          have hpl : p.length = n + 6 := by rw [← hp, partl_len, HT.out.2.2.2.1]
          have hC5 := H5.out.2.1
          rw [hp] at hC5
          have HPP := Aside0.mk (And.intro hadd (And.intro hpb (And.intro hpl hC5)))
          clear hadd hpb hpl hC5 hp
          refine HPP.out.1.mono ?_
          rintro e w6 ⟨rfl, hI6, hC6⟩
          have hB5w := HR.out.below.trans (H5.out.2.2.1.mono HR.out.below.size)
          have hB6 : Below w.heap.size w w6 := hB5w.trans (hC6.below hB5w.size (fun i hi => by omega))
          have hrow6 : (Kd.int .u8).C w6 A1 n (ints m) := C_chg (Kd.C_below HR.out.row H5.out.2.2.1) hC6 (fun ad had hs => by have := H3.out.2.2.2.2 ad had; omega)
          have hbox6 : w6.heap[g]? = some (.cells (fourW (fun v => cnt v rs)) 47 (0, 0)) := hC6.keeps (below_cell_blk H5.out.2.2.1 HR.out.box) (by omega)
          have hgwc : g < wc.heap.size := blk_lt HR.out.box
          have hp6 : (Kd.int .u8).C w6 A5 (n + 6) (ints p) := C_chg HPP.out.2.2.2 hC6 (fun ad had hs => by have := H5.out.2.2.2 ad had; omega)
          have hM7 := HR.out.step HP.out.2.1 hI6 hB6 hrow6 hbox6 HPP.out.2.1 HPP.out.2.2.1 (by rw [HP.out.2.2]; exact HC7.out) hgb hbw H3.out.2.2.2.2
          rw [HP.out.2.2] at hM7
          have hp7 : (Kd.int .u8).C (w6.setCell ⟨g, v, none⟩ (.int .i64 ((cv : Nat) + 1))) A5 (n + 6) (ints p) := C_chg hp6 (chg_put _ g v _) (fun ad had hs => by have := H5.out.2.2.2 ad had; omega)
          have gb6 : w6.cell? ⟨g, v, none⟩ = some (.int .i64 (cv : Nat)) := by
            have := (blk_cell hbox6 v).trans (fourW_get (fun v => cnt v rs) v HP.out.2.1)
            simp only [HP.out.2.2] at this
            exact this
          have gf6 : w6.frozen? ⟨g, v, none⟩ = false := blk_frozen hbox6 v
          have H7 := Aside0.mk (And.intro hM7 hp7)
          have hw2 : (cv : Int) + 1 ≤ 7 := by have := HC7.out; omega
          clear hI6 hC6 hB5w hB6 hrow6 hbox6 hp6 hM7 hp7 hgwc
          go_upto_region 16 with fail
          obtain ⟨W7, hW7⟩ : ∃ W7, w6.setCell ⟨g, v, none⟩ (.int .i64 ((cv : Nat) + 1)) = W7 := ⟨_, rfl⟩
          have hM7 := H7.out.1
          have hp7 := H7.out.2
          rw [hW7] at hM7 hp7 ⊢
          have H8 := Aside0.mk (And.intro hM7 hp7)
          clear hM7 hp7 hW7 gb6 gf6
          obtain ⟨K, hK⟩ : ∃ K, 4 * (n + 6) = K := ⟨_, rfl⟩
          have hcl : (code m).length = K := by rw [code_len, HT.out.2.2.2.1, hK]
          have hcode := Code_any m HT.out.2.2.1 A1 c1' W7 (by rw [HT.out.2.2.2.1]; exact H8.out.1.row) (by rw [HT.out.2.2.2.1]; exact hc1) (by rw [HT.out.2.2.2.1]; omega)
          rw [HT.out.2.2.2.1] at hcode
          have HKK := Aside0.mk (And.intro hK (And.intro hcl hcode))
          clear hK hcl hcode
          go_wp2_with fail
          refine HKK.out.2.2.mono ?_
          rintro e w8 ⟨u8, rfl, hR8, hB8⟩
          obtain ⟨A8, c8, e8, hc8, hC8⟩ := Kd.R_reads hR8
          rw [ints_len, HKK.out.2.1] at e8 hc8 hC8
          subst e8
          have hpick := Pick_any (code m) v (n + 6) K HP.out.2.1 HKK.out.2.1 HKK.out.1.symm (by omega) A8 c8 w8 hC8 hc8
          have H9 := Aside0.mk (And.intro hB8 hpick)
          clear hR8 hB8 hc8 hC8 hpick
          go_wp2_with fail
          refine H9.out.2.mono ?_
          rintro e w9 ⟨u9, rfl, hR9, hB9⟩
          obtain ⟨A9, c9, e9, hc9, hC9⟩ := Kd.R_reads hR9
          rw [ints_len, pickl_len] at e9 hc9 hC9
          subst e9
          have hB79 : Below W7.heap.size W7 w9 := H9.out.1.trans (hB9.mono H9.out.1.size)
          have hap := Apart_any p (pickl (code m) v (n + 6)) A5 A9 c5 c9 (n + 6) w9 HPP.out.2.2.1 (pickl_len _ _ _) (by omega) (Kd.C_below H8.out.2 hB79) hC9 H5.out.1 hc9
          have hM9 := H8.out.1.full hB79
          have htl := turned_le (code m) (n + 6) _ hM9.len
          have hfew := hM9.few
          have htn : turned (code m) (n + 6) ((v, p) :: rs) = turned (code m) (n + 6) rs + apart p (pickl (code m) v (n + 6)) := rfl
          have htl2 : ((v, p) :: rs).length * (n + 6) ≤ 12 * 46 := Nat.mul_le_mul (by omega) (by omega)
          obtain ⟨T, hT⟩ : ∃ T, turned (code m) (n + 6) rs = T := ⟨_, rfl⟩
          obtain ⟨D, hD⟩ : ∃ D, apart p (pickl (code m) v (n + 6)) = D := ⟨_, rfl⟩
          rw [hT, hD] at htn
          rw [htn] at htl
          rw [hD] at hap
          rw [hT]
          have bb : -9223372036854775808 ≤ (T : Int) + (D : Int) ∧ (T : Int) + (D : Int) ≤ 9223372036854775807 := by omega
          have H10 := Aside0.mk (And.intro hM9 (And.intro htn hap))
          clear hR9 hB9 hc9 hC9 hap hM9 htl hfew htn htl2 hT hD hB79
          have hw3 : wrap64 ((T : Int) + (D : Int)) = (T : Int) + (D : Int) := wrap64_in _ bb.1 bb.2
          clear bb
          go_wp2_with fail
          refine H10.out.2.2.mono ?_
          rintro e w10 ⟨rfl, q, hq⟩
          subst hq
          go_wp2_with fail
          have HW3 := Aside0.mk hw3
          clear hw3
          refine ⟨⟨k + 1, (v, p) :: rs, ?_, by go_num, by omega, by omega, H10.out.1.full (pw_below_drewN (Below.refl _ _) q)⟩, by simp only [intOf]; omega⟩
          rw [H10.out.2.1]
          exact congrArg (Value.int IntKind.i64) HW3.out
      · rw [decide_eq_false hk]
        obtain ⟨T, hT⟩ : ∃ T, turned (code m) (n + 6) rs = T := ⟨_, rfl⟩
        have htl := turned_le (code m) (n + 6) _ HR.out.len
        have hfew := HR.out.few
        have htl2 : rs.length * (n + 6) ≤ 12 * 46 := Nat.mul_le_mul (by omega) (by omega)
        rw [hT] at htl
        rw [hT]
        have hleast := Least_any (fun v => cnt v rs) HR.out.most wc
        have M0 := blk_cell HR.out.box 0
        have M1 := blk_cell HR.out.box 1
        have M2 := blk_cell HR.out.box 2
        have M3 := blk_cell HR.out.box 3
        simp only [List.getElem?_toArray, List.getElem?_cons_zero, List.getElem?_cons_succ] at M0 M1 M2 M3
        have bb : -9223372036854775808 ≤ 2 * (T : Int) ∧ 2 * (T : Int) ≤ 9223372036854775807 := by omega
        have HL := Aside0.mk (And.intro hleast (And.intro hT hk12))
        clear hleast hT htl hfew htl2 hk hkn hk12
        have hw3 : wrap64 (2 * (T : Int)) = 2 * (T : Int) := wrap64_in _ bb.1 bb.2
        clear bb
        go_wp2_with fail
        refine HL.out.1.mono ?_
        rintro e w7 ⟨best, at_, rfl, hPot, hB7⟩
        have H7 := Aside0.mk (And.intro hPot hB7)
        clear hPot hB7
        by_cases hge : best ≤ 2 * T
        · have hge' : (best : Int) ≤ 2 * (T : Int) := by omega
          go_wp2_with fail
          go_ret
          exact ⟨rfl, HR.out.below.trans (H7.out.2.mono HR.out.below.size)⟩
        · have hge' : ¬ (best : Int) ≤ 2 * (T : Int) := by omega
          have htold := mends_told HT.out.2.2.2.1 HT.out.2.2.1 (by omega) rs HR.out.ver HR.out.bits HR.out.len (by have := HR.out.few; have := HL.out.2.2; omega) HR.out.most H7.out.1 (by rw [HL.out.2.1]; omega)
          have hdec := BDecode_any w7 b (b + 1) n _ _ (HR.out.buf.below H7.out.2) (HT.out.1.below (HR.out.below.trans (H7.out.2.mono HR.out.below.size)))
          rw [htold.1, htold.2] at hdec
          have HD := Aside0.mk hdec
          obtain ⟨S, hS⟩ : ∃ S, strOfNums (ints m) = S := ⟨_, rfl⟩
          have HS := Aside0.mk hS
          clear hdec htold hS hge
          go_wp2_with fail
          refine HD.out.mono ?_
          rintro e w9 ⟨u9, rfl, hR9, hB9⟩
          have H9 := Aside0.mk (And.intro hR9 hB9)
          clear hR9 hB9
          obtain ⟨A9, c9, e9, hc9, hC9⟩ := Kd.R_reads H9.out.1
          rw [ints_len, HT.out.2.2.2.1] at e9 hC9
          subst e9
          have k1 : (convert 25 9 (.slice A9 n c9)).run Tryd.prog w9 = .ok (.string S) w9 := by rw [← HS.out]; exact Kd.C_string Tryd.underlying25 Tryd.underlying5 Tryd.underlying9 hC9
          have k2 : (convert 25 9 (.slice A1 n c1')).run Tryd.prog w9 = .ok (.string S) w9 := by rw [← HS.out]; exact Kd.C_string Tryd.underlying25 Tryd.underlying5 Tryd.underlying9 (Kd.C_below (Kd.C_below HR.out.row H7.out.2) H9.out.2)
          clear hC9 hc9
          go_wp2_with fail
          go_ret
          have hb7 := HR.out.below.trans (H7.out.2.mono HR.out.below.size)
          exact ⟨rfl, hb7.trans (H9.out.2.mono hb7.size)⟩
end Go.Proofs.YticiilolmkbncaaDoor.Vit
