/- The law HarqMends: each theorem says its own conditions. -/
import Derived.Test.YtnejnnfjbhpigaaDoorDe
namespace Go.Proofs.YtnejnnfjbhpigaaDoor.Vit
open Go.RowKit Go.Proofs.YtnejnnfjbhpigaaDoorW.PrintWords Go.Proofs.YtnejnnfjbhpigaaDoorW.PrintLast Go.Proofs.YtnejnnfjbhpigaaDoorW.PrintMore Go.Proofs.YtnejnnfjbhpigaaDoor.Mem Go.Proofs.YtnejnnfjbhpigaaDoor.Crc
attribute [local go_sem] max2_int min2_int max_two min_two max_three min_three max_four min_four   -- for this text's walks alone
set_option linter.unusedVariables false
set_option linter.unusedSimpArgs false

open Go.Proofs.YtnejnnfjbhpigaaDoor.Chk
set_option maxHeartbeats 3200000 in
set_option maxRecDepth 100000 in
theorem hmends_few (A Ar : Option Addr) (n c R cr : Nat) (m : List Nat) (row : List HRow) (w : World) (hn : m.length = n) (hC : (Kd.int .u8).C w A n (ints m)) (hb : ∀ x ∈ m, x < 256) (hc : n ≤ c) (hl : n ≤ 140737488355328) (h4 : n ≤ 8) (hR : HC5.C w Ar R row) (hRl : R ≤ 140737488355328) (hRc : R ≤ cr) (ht : Taps w) :
    Calls Tryd.prog 4 #[.slice A n c, .slice Ar R cr] w fun e w' => e = .returned (.bool true) ∧ Below w.heap.size w w' := by
  have h4i : (n : Int) ≤ 8 := by omega
  have hnew := HNew_any n (by omega) w
  obtain ⟨S, hS⟩ : ∃ S, strOfNums (ints m) = S := ⟨_, rfl⟩
  have HC := Aside0.mk (And.intro hnew (And.intro hC (And.intro ht (And.intro hb (And.intro hn (And.intro hR hS))))))
  clear hnew hC ht hb hn hR hS
  go_enter Tryd.func4, Tryd.ntmps4
  go_wp2_with fail
  refine HC.out.1.mono ?_
  rintro e w1 ⟨rfl, hI1, hB1⟩
  have hrd := reads_any w1 (HC.out.2.2.1.below hB1)
  have hP1 := Proc.new HC.out.2.2.1 hI1 hB1
  have H1 := Aside0.mk (And.intro hB1 (And.intro hP1 hrd))
  clear hB1 hrd hI1 hP1
  go_wp2_with fail
  refine H1.out.2.2.mono ?_
  rintro e w2 ⟨rfl, hB2⟩
  obtain ⟨L, hL⟩ : ∃ L, 8 * (n + 4) + 6 = L := ⟨_, rfl⟩
  obtain ⟨g, hg⟩ : ∃ g, w2.heap.size = g := ⟨_, rfl⟩
  have hB02 := H1.out.1.trans (hB2.mono H1.out.1.size)
  have hgw : w.heap.size ≤ g := by rw [← hg]; exact hB02.size
  have hBa : Below w2.heap.size w2 (w2.alloc (.cells (fourW (fun v => cnt v [])) 37)) := below_alloc (Below.refl _ _) _
  have hbx : (w2.alloc (.cells (fourW (fun v => cnt v [])) 37)).heap[g]? = some (.cells (fourW (fun v => cnt v [])) 37 (0, 0)) := by rw [← hg]; exact heap_alloc_new _ _
  have H2 := Aside0.mk (And.intro (hB02.trans (hBa.mono hB02.size)) (And.intro ((H1.out.2.1.below hB2).below hBa) (And.intro hbx (And.intro hg (And.intro hgw hL)))))
  clear hB2 hB02 hBa hbx hg hgw hL
  go_wp2_with fail
  rw [H2.out.2.2.2.1]
  go_loopw [8, 9] (fun x y wv => ∃ i b sb : Nat, ∃ rs : List (Nat × List Nat), x = .int .i64 (turned (code (msgB m)) L rs : Nat) ∧ y = .int .i64 i ∧ i ≤ 6 ∧ RsOk L i rs ∧ wv.heap[g]? = some (.cells (fourW (fun v => cnt v rs)) 37 (0, 0)) ∧ Below w.heap.size w wv ∧ Proc w.heap.size wv w.heap.size b sb n (softs L rs) (fun v => cnt v rs) i false) (fun _ y _ => 6 - (intOf y).toNat)
  case atStart => exact ⟨0, _, _, [], rfl, rfl, Nat.zero_le _, RsOk.nil L, H2.out.2.2.1, H2.out.1, by have h := H2.out.2.1; rw [H2.out.2.2.2.2.2] at h; exact h⟩
  case round =>
    obtain ⟨i, b, sb, rs, rfl, rfl, hi, hrs, hbox, hB, hP⟩ := hrel
    by_cases hiR : i < R
    · have hiRi : (i : Int) < (R : Int) := by omega
      by_cases hi6 : i < 6
      · have hi6i : (i : Int) < 6 := by omega
        have d1 : decide ((i : Int) < 6) = true := decide_eq_true hi6i
        have d2 : decide (i < 6) = true := decide_eq_true hi6
        obtain ⟨ad, r, vv, at_, raw, nn, Aa, ca, Aw, cw, hA, hrow, hle, hCa, hle2, hCw, e0, e1, e2, e3, e4⟩ := hcame_at (Kd.C_below HC.out.2.2.2.2.2.1 hB) i hiR
        cases hA
        obtain ⟨k2, hk2, hk24⟩ := mod_in vv 4 (by omega) (by omega)
        simp only [Int.cast_ofNat_Int, Int.ofNat_eq_natCast] at hk2
        obtain ⟨cv, hcv⟩ : ∃ cv, cnt k2 rs = cv := ⟨_, rfl⟩
        obtain ⟨T, hT⟩ : ∃ T, turned (code (msgB m)) L rs = T := ⟨_, rfl⟩
        rw [hT]
        have HE := Aside0.mk (And.intro hle (And.intro hCa (And.intro hle2 (And.intro hCw (And.intro hB (And.intro hP (And.intro hrs (And.intro hbox (And.intro hcv hT)))))))))
        clear hle hCa hle2 hCw hB hP hrow hrs hbox hcv hT
        go_wp2_with fail
        refine (body_any m HC.out.2.2.2.1 n HC.out.2.2.2.2.1 (by omega) k2 hk24 r vv nn at_ Aa Aw A at_.length ca raw.length cw c rfl HE.out.1 (Kd.C_max HE.out.2.1) wr HE.out.2.1 (Kd.C_below HC.out.2.1 HE.out.2.2.2.2.1) (by omega)).mono ?_
        rintro e w6 ⟨u6, rfl, hR6, hB6⟩
        obtain ⟨p, hp⟩ : ∃ p, bodL m at_ k2 = p := ⟨_, rfl⟩
        have hpb : Bits p := by rw [← hp]; exact bodL_bits m at_ k2
        have hpl : p.length = L := by rw [← hp, bodL_len, HC.out.2.2.2.2.1]; exact H2.out.2.2.2.2.2
        rw [hp] at hR6
        obtain ⟨A6, c6, rfl, hc6, hC6⟩ := Kd.R_reads hR6
        rw [ints_len, hpl] at hc6 hC6 hR6 ⊢
        have hP6 := HE.out.2.2.2.2.2.1.below hB6
        have hbox6 := below_cell_blk hB6 HE.out.2.2.2.2.2.2.2.1
        have hgw6 : g < wr.heap.size := blk_lt HE.out.2.2.2.2.2.2.2.1
        have hB06 := HE.out.2.2.2.2.1.trans (hB6.mono HE.out.2.2.2.2.1.size)
        have gb6 : w6.cell? ⟨g, k2, none⟩ = some (.int .i64 (cv : Nat)) := by
          have h := (blk_cell hbox6 k2).trans (fourW_get (fun v => cnt v rs) k2 hk24)
          simp only [HE.out.2.2.2.2.2.2.2.2.1] at h
          exact h
        have gf6 : w6.frozen? ⟨g, k2, none⟩ = false := blk_frozen hbox6 k2
        have hcv6 : (cv : Int) ≤ 6 := by
          have h1 := cnt_few k2 rs
          rw [HE.out.2.2.2.2.2.2.1.num, HE.out.2.2.2.2.2.2.2.2.1] at h1
          omega
        have hbox7 := blk_set hbox6 k2 (.int .i64 ((cv : Nat) + 1))
        have hset := fourW_set (fun v => cnt v rs) hk24
        simp only [HE.out.2.2.2.2.2.2.2.2.1] at hset
        rw [hset, bump_cnt rs k2 p] at hbox7
        have hap6 := row_apart hP6.is hR6
        have hC7 : (Kd.int .u8).C (w6.setCell ⟨g, k2, none⟩ (.int .i64 ((cv : Nat) + 1))) A6 L (ints p) := C_chg hC6 (chg_put _ g k2 _) (fun ad had hs => by
          have h1 := ((Kd.R_bound hR6).1 ad.block (by rw [had]; rfl)).2.1
          have h2 : ad.block = g := hs
          omega)
        have hP7 := hP6.put hbox6 H2.out.2.2.2.2.1 k2 (.int .i64 ((cv : Nat) + 1))
        have hB07 := hB06.setCell (p := ⟨g, k2, none⟩) H2.out.2.2.2.2.1 (.int .i64 ((cv : Nat) + 1))
        have H7 := Aside0.mk (And.intro hbox7 (And.intro hC7 (And.intro hP7 (And.intro hB07 (And.intro hc6 (And.intro hap6 (And.intro hpb hpl)))))))
        clear hbox7 hC7 hP7 hB07 hc6 hap6 hpb hpl hset hbox6 hP6 hR6 hC6 hB6 hB06 hgw6 hp
        go_wp2_with fail
        obtain ⟨W7, hW7⟩ : ∃ W7, w6.setCell ⟨g, k2, none⟩ (.int .i64 ((cv : Nat) + 1)) = W7 := ⟨_, rfl⟩
        have h7 := H7.out
        rw [hW7] at h7 ⊢
        have H8 := Aside0.mk h7
        clear h7 hW7 gb6 gf6 hcv6
        refine (Version17_any m HC.out.2.2.2.1 A n c W7 HC.out.2.2.2.2.1 (Kd.C_below HC.out.2.1 H8.out.2.2.2.1) (by omega) k2 hk24).mono ?_
        rintro e w8 ⟨u8, rfl, hR8, hB8⟩
        obtain ⟨A8, c8, rfl, hc8, hC8⟩ := Kd.R_reads hR8
        have hl8 : (ints (verL m k2)).length = L := by rw [ints_len, verL_len, HC.out.2.2.2.2.1]; exact H2.out.2.2.2.2.2
        rw [hl8] at hc8 hC8 ⊢
        have hLb : L ≤ 1000 := by have := H2.out.2.2.2.2.2; omega
        have hap := Apart_any p (verL m k2) A6 A8 c6 c8 L w8 H8.out.2.2.2.2.2.2.2 (by rw [← ints_len]; exact hl8) (by omega) (Kd.C_below H8.out.2.1 hB8) hC8 H8.out.2.2.2.2.1 hc8
        have hrs2 := HE.out.2.2.2.2.2.2.1.next hk24 H8.out.2.2.2.2.2.2.1 H8.out.2.2.2.2.2.2.2
        have htn : turned (code (msgB m)) L ((k2, p) :: rs) = turned (code (msgB m)) L rs + apart p (verL m k2) := by
          show _ = turned (code (msgB m)) L rs + apart p (pickl (code (msgB m)) k2 (8 * (m.length + 4) + 6))
          rw [HC.out.2.2.2.2.1, H2.out.2.2.2.2.2]
          rfl
        obtain ⟨D, hD⟩ : ∃ D, apart p (verL m k2) = D := ⟨_, rfl⟩
        rw [hD] at hap htn
        rw [HE.out.2.2.2.2.2.2.2.2.2] at htn
        have htl := turned_le (code (msgB m)) L _ hrs2.len
        rw [hrs2.num, htn] at htl
        have htl2 : (i + 1) * L ≤ 7 * 1000 := Nat.mul_le_mul (by omega) hLb
        have hTb : (T : Int) + (D : Int) ≤ 7000 := by omega
        have H9 := Aside0.mk (And.intro hap (And.intro hrs2 (And.intro htn hB8)))
        clear hap hrs2 htn hB8 hR8 hC8 hc8 hl8 hLb htl htl2 hD
        go_wp2_with fail
        refine H9.out.1.mono ?_
        rintro e w9 ⟨rfl, q9, hq9⟩
        have hB9 : Below W7.heap.size W7 w9 := by
          rw [hq9]
          exact H9.out.2.2.2.trans (pw_below_drewN (Below.refl _ _) q9)
        clear hq9
        have hP9 := H8.out.2.2.1.below hB9
        have hof := Offer_all w.heap.size b sb n n i (softs L rs) (fun v => cnt v rs) k2 hk24 p H8.out.2.2.2.2.2.2.1 L H2.out.2.2.2.2.2 H8.out.2.2.2.2.2.2.2 A6 c6 H8.out.2.2.2.2.1 w9 hP9.is (by omega) hP9.in_ (Kd.C_below H8.out.2.1 hB9) H8.out.2.2.2.2.2.1 hP9.taps hP9.zero
        have hB09 := H8.out.2.2.2.1.trans (hB9.mono H8.out.2.2.2.1.size)
        have HF := Aside0.mk (And.intro hof (And.intro hP9 (And.intro hB09 (below_cell_blk hB9 H8.out.1))))
        clear hof hP9 hB9 hB09
        have hw3 : wrap64 ((T : Int) + (D : Int)) = (T : Int) + (D : Int) := wrap64_in _ (by omega) (by omega)
        go_wp2_with fail
        refine HF.out.1.mono ?_
        rintro e w10 ⟨u10, b10, sb10, rfl, hR10, hI10, hs10, hC10⟩
        have hP10 := HF.out.2.1.next (u := u10) (e := .returned u10) hI10 hs10 hC10
        have hB10 : Below w.heap.size w w10 := HF.out.2.1.keeps (Nat.le_refl _) hC10 HF.out.2.2.1 (Nat.le_refl _)
        have hbox10 := box_off HF.out.2.1.is hC10 HF.out.2.2.2
        have hX : addv (offX n n i (softs L rs)) k2 p (8 * (n + 4) + 6) = softs L ((k2, p) :: rs) := by rw [offX_same (by omega), H2.out.2.2.2.2.2]; rfl
        have hY : bump (offS n n i (fun v => cnt v rs)) k2 = fun v => cnt v ((k2, p) :: rs) := by rw [offS_same (by omega)]; exact bump_cnt rs k2 p
        rw [hX, hY, offN_same (by omega)] at hP10
        rw [hX] at hR10 ⊢
        have htn := H9.out.2.2.1
        have hmend : ∀ best at_, Pot (fun v => cnt v ((k2, p) :: rs)) best at_ → 2 * (T + D) < best → hRes (8 * (n + 4)) k2 p (softs L ((k2, p) :: rs)) = some m := fun best at_ hP hlt => hRes_mends HC.out.2.2.2.1 HC.out.2.2.2.2.1 (by omega) H2.out.2.2.2.2.2 H9.out.2.1 (by omega) hP (by rw [htn]; exact hlt) p
        have hcell0 := blk_cell hbox10 0
        have hcell1 := blk_cell hbox10 1
        have hcell2 := blk_cell hbox10 2
        have hcell3 := blk_cell hbox10 3
        simp only [List.getElem?_toArray, List.getElem?_cons_zero, List.getElem?_cons_succ] at hcell0 hcell1 hcell2 hcell3
        have hleast := Least_any (fun v => cnt v ((k2, p) :: rs)) (fun v => by have h1 := cnt_few v ((k2, p) :: rs); rw [H9.out.2.1.num] at h1; omega) w10
        generalize hr : hRes _ _ _ _ = r at hP10 hR10 hmend ⊢
        have HG := Aside0.mk (And.intro hP10 (And.intro hR10 (And.intro hmend (And.intro hleast (And.intro hB10 (And.intro hbox10 htn))))))
        clear hP10 hR10 hmend hleast hB10 hI10 hs10 hC10 hbox10 hX hY htn hr
        have hw4 : wrap64 (2 * ((T : Int) + (D : Int))) = 2 * ((T : Int) + (D : Int)) := wrap64_in _ (by omega) (by omega)
        go_wp2_with fail
        refine HG.out.2.2.2.1.mono ?_
        rintro e w11 ⟨best, ats, rfl, hPot, hB11⟩
        have hB011 := HG.out.2.2.2.2.1.trans (hB11.mono HG.out.2.2.2.2.1.size)
        have HL := Aside0.mk (And.intro hPot (And.intro hB11 hB011))
        clear hPot hB11 hB011
        by_cases hlt : 2 * (T + D) < best
        · have hlti : 2 * ((T : Int) + (D : Int)) < (best : Int) := by omega
          have hsome := HG.out.2.2.1 best ats HL.out.1 hlt
          subst hsome
          have he : hE (some m) = 0 := rfl
          rw [he]
          obtain ⟨A7, c7, e7, hc7, hC7⟩ := Kd.R_reads HG.out.2.1
          have hl7 : (ints ((some m).getD [])).length = n := by rw [ints_len]; exact HC.out.2.2.2.2.1
          rw [hl7] at e7 hC7
          subst e7
          have k1 : (convert 22 9 (.slice A7 n c7)).run Tryd.prog w11 = .ok (.string S) w11 := by rw [← HC.out.2.2.2.2.2.2]; exact Kd.C_string Tryd.underlying22 Tryd.underlying5 Tryd.underlying9 (Kd.C_below hC7 HL.out.2.1)
          have k3 : (convert 22 9 (.slice A n c)).run Tryd.prog w11 = .ok (.string S) w11 := by rw [← HC.out.2.2.2.2.2.2]; exact Kd.C_string Tryd.underlying22 Tryd.underlying5 Tryd.underlying9 (Kd.C_below HC.out.2.1 HL.out.2.2)
          clear hC7 hc7 hl7 he
          go_wp2_with fail
          go_ret
          exact ⟨rfl, HL.out.2.2⟩
        · have hlti : ¬ 2 * ((T : Int) + (D : Int)) < (best : Int) := by omega
          cases r with
          | some m1 =>
            have he : hE (some m1) = 0 := rfl
            rw [he]
            clear he
            go_wp2_with fail
            go_ret
            exact ⟨rfl, HL.out.2.2⟩
          | none =>
            have he : hE none = 12 := rfl
            rw [he]
            clear he
            go_wp2
            exact ⟨⟨i + 1, b10, sb10, (k2, p) :: rs, by rw [HG.out.2.2.2.2.2.2]; exact congrArg (Value.int IntKind.i64) (by omega), by go_num, by omega, H9.out.2.1, below_cell_blk HL.out.2.1 HG.out.2.2.2.2.2.1, HL.out.2.2, HG.out.1.below HL.out.2.1⟩, by simp only [intOf]; omega⟩
      · have hi6i : ¬ (i : Int) < 6 := by omega
        have d1 : decide ((i : Int) < 6) = false := decide_eq_false hi6i
        have d2 : decide (i < 6) = false := decide_eq_false hi6
        have HE := Aside0.mk (And.intro hB hP)
        clear hB hP
        go_wp2_with fail
        go_ret
        exact ⟨rfl, HE.out.1⟩
    · have hiRi : ¬ (i : Int) < (R : Int) := by omega
      have HE := Aside0.mk (And.intro hB hP)
      clear hB hP
      go_wp2_with fail
      go_ret
      exact ⟨rfl, HE.out.1⟩
set_option maxHeartbeats 3200000 in
set_option maxRecDepth 100000 in
theorem hmends_cut (A Ar : Option Addr) (n c R cr : Nat) (m : List Nat) (row : List HRow) (w : World) (hn : m.length = 8) (hC : (Kd.int .u8).C w A 8 (ints m)) (hb : ∀ x ∈ m, x < 256) (hc : n ≤ c) (hl : n ≤ 140737488355328) (h4 : 8 < n) (hR : HC5.C w Ar R row) (hRl : R ≤ 140737488355328) (hRc : R ≤ cr) (ht : Taps w) :
    Calls Tryd.prog 4 #[.slice A n c, .slice Ar R cr] w fun e w' => e = .returned (.bool true) ∧ Below w.heap.size w w' := by
  have h4i : (8 : Int) < (n : Int) := by omega
  have hm8 : max (8 : Int) 0 = 8 := rfl
  have hnew := HNew_any 8 (by omega) w
  obtain ⟨S, hS⟩ : ∃ S, strOfNums (ints m) = S := ⟨_, rfl⟩
  have HC := Aside0.mk (And.intro hnew (And.intro hC (And.intro ht (And.intro hb (And.intro hn (And.intro hR hS))))))
  clear hnew hC ht hb hn hR hS
  go_enter Tryd.func4, Tryd.ntmps4
  go_wp2_with fail
  refine HC.out.1.mono ?_
  rintro e w1 ⟨rfl, hI1, hB1⟩
  have hrd := reads_any w1 (HC.out.2.2.1.below hB1)
  have hP1 := Proc.new HC.out.2.2.1 hI1 hB1
  have H1 := Aside0.mk (And.intro hB1 (And.intro hP1 hrd))
  clear hB1 hrd hI1 hP1
  go_wp2_with fail
  refine H1.out.2.2.mono ?_
  rintro e w2 ⟨rfl, hB2⟩
  obtain ⟨L, hL⟩ : ∃ L, 8 * (8 + 4) + 6 = L := ⟨_, rfl⟩
  obtain ⟨g, hg⟩ : ∃ g, w2.heap.size = g := ⟨_, rfl⟩
  have hB02 := H1.out.1.trans (hB2.mono H1.out.1.size)
  have hgw : w.heap.size ≤ g := by rw [← hg]; exact hB02.size
  have hBa : Below w2.heap.size w2 (w2.alloc (.cells (fourW (fun v => cnt v [])) 37)) := below_alloc (Below.refl _ _) _
  have hbx : (w2.alloc (.cells (fourW (fun v => cnt v [])) 37)).heap[g]? = some (.cells (fourW (fun v => cnt v [])) 37 (0, 0)) := by rw [← hg]; exact heap_alloc_new _ _
  have H2 := Aside0.mk (And.intro (hB02.trans (hBa.mono hB02.size)) (And.intro ((H1.out.2.1.below hB2).below hBa) (And.intro hbx (And.intro hg (And.intro hgw hL)))))
  clear hB2 hB02 hBa hbx hg hgw hL
  go_wp2_with fail
  rw [H2.out.2.2.2.1]
  go_loopw [8, 9] (fun x y wv => ∃ i b sb : Nat, ∃ rs : List (Nat × List Nat), x = .int .i64 (turned (code (msgB m)) L rs : Nat) ∧ y = .int .i64 i ∧ i ≤ 6 ∧ RsOk L i rs ∧ wv.heap[g]? = some (.cells (fourW (fun v => cnt v rs)) 37 (0, 0)) ∧ Below w.heap.size w wv ∧ Proc w.heap.size wv w.heap.size b sb 8 (softs L rs) (fun v => cnt v rs) i false) (fun _ y _ => 6 - (intOf y).toNat)
  case atStart => exact ⟨0, _, _, [], rfl, rfl, Nat.zero_le _, RsOk.nil L, H2.out.2.2.1, H2.out.1, by have h := H2.out.2.1; rw [H2.out.2.2.2.2.2] at h; exact h⟩
  case round =>
    obtain ⟨i, b, sb, rs, rfl, rfl, hi, hrs, hbox, hB, hP⟩ := hrel
    by_cases hiR : i < R
    · have hiRi : (i : Int) < (R : Int) := by omega
      by_cases hi6 : i < 6
      · have hi6i : (i : Int) < 6 := by omega
        have d1 : decide ((i : Int) < 6) = true := decide_eq_true hi6i
        have d2 : decide (i < 6) = true := decide_eq_true hi6
        obtain ⟨ad, r, vv, at_, raw, nn, Aa, ca, Aw, cw, hA, hrow, hle, hCa, hle2, hCw, e0, e1, e2, e3, e4⟩ := hcame_at (Kd.C_below HC.out.2.2.2.2.2.1 hB) i hiR
        cases hA
        obtain ⟨k2, hk2, hk24⟩ := mod_in vv 4 (by omega) (by omega)
        simp only [Int.cast_ofNat_Int, Int.ofNat_eq_natCast] at hk2
        obtain ⟨cv, hcv⟩ : ∃ cv, cnt k2 rs = cv := ⟨_, rfl⟩
        obtain ⟨T, hT⟩ : ∃ T, turned (code (msgB m)) L rs = T := ⟨_, rfl⟩
        rw [hT]
        have HE := Aside0.mk (And.intro hle (And.intro hCa (And.intro hle2 (And.intro hCw (And.intro hB (And.intro hP (And.intro hrs (And.intro hbox (And.intro hcv hT)))))))))
        clear hle hCa hle2 hCw hB hP hrow hrs hbox hcv hT
        go_wp2_with fail
        refine (body_any m HC.out.2.2.2.1 8 HC.out.2.2.2.2.1 (by omega) k2 hk24 r vv nn at_ Aa Aw A at_.length ca raw.length cw c rfl HE.out.1 (Kd.C_max HE.out.2.1) wr HE.out.2.1 (Kd.C_below HC.out.2.1 HE.out.2.2.2.2.1) (by omega)).mono ?_
        rintro e w6 ⟨u6, rfl, hR6, hB6⟩
        obtain ⟨p, hp⟩ : ∃ p, bodL m at_ k2 = p := ⟨_, rfl⟩
        have hpb : Bits p := by rw [← hp]; exact bodL_bits m at_ k2
        have hpl : p.length = L := by rw [← hp, bodL_len, HC.out.2.2.2.2.1]; exact H2.out.2.2.2.2.2
        rw [hp] at hR6
        obtain ⟨A6, c6, rfl, hc6, hC6⟩ := Kd.R_reads hR6
        rw [ints_len, hpl] at hc6 hC6 hR6 ⊢
        have hP6 := HE.out.2.2.2.2.2.1.below hB6
        have hbox6 := below_cell_blk hB6 HE.out.2.2.2.2.2.2.2.1
        have hgw6 : g < wr.heap.size := blk_lt HE.out.2.2.2.2.2.2.2.1
        have hB06 := HE.out.2.2.2.2.1.trans (hB6.mono HE.out.2.2.2.2.1.size)
        have gb6 : w6.cell? ⟨g, k2, none⟩ = some (.int .i64 (cv : Nat)) := by
          have h := (blk_cell hbox6 k2).trans (fourW_get (fun v => cnt v rs) k2 hk24)
          simp only [HE.out.2.2.2.2.2.2.2.2.1] at h
          exact h
        have gf6 : w6.frozen? ⟨g, k2, none⟩ = false := blk_frozen hbox6 k2
        have hcv6 : (cv : Int) ≤ 6 := by
          have h1 := cnt_few k2 rs
          rw [HE.out.2.2.2.2.2.2.1.num, HE.out.2.2.2.2.2.2.2.2.1] at h1
          omega
        have hbox7 := blk_set hbox6 k2 (.int .i64 ((cv : Nat) + 1))
        have hset := fourW_set (fun v => cnt v rs) hk24
        simp only [HE.out.2.2.2.2.2.2.2.2.1] at hset
        rw [hset, bump_cnt rs k2 p] at hbox7
        have hap6 := row_apart hP6.is hR6
        have hC7 : (Kd.int .u8).C (w6.setCell ⟨g, k2, none⟩ (.int .i64 ((cv : Nat) + 1))) A6 L (ints p) := C_chg hC6 (chg_put _ g k2 _) (fun ad had hs => by
          have h1 := ((Kd.R_bound hR6).1 ad.block (by rw [had]; rfl)).2.1
          have h2 : ad.block = g := hs
          omega)
        have hP7 := hP6.put hbox6 H2.out.2.2.2.2.1 k2 (.int .i64 ((cv : Nat) + 1))
        have hB07 := hB06.setCell (p := ⟨g, k2, none⟩) H2.out.2.2.2.2.1 (.int .i64 ((cv : Nat) + 1))
        have H7 := Aside0.mk (And.intro hbox7 (And.intro hC7 (And.intro hP7 (And.intro hB07 (And.intro hc6 (And.intro hap6 (And.intro hpb hpl)))))))
        clear hbox7 hC7 hP7 hB07 hc6 hap6 hpb hpl hset hbox6 hP6 hR6 hC6 hB6 hB06 hgw6 hp
        go_wp2_with fail
        obtain ⟨W7, hW7⟩ : ∃ W7, w6.setCell ⟨g, k2, none⟩ (.int .i64 ((cv : Nat) + 1)) = W7 := ⟨_, rfl⟩
        have h7 := H7.out
        rw [hW7] at h7 ⊢
        have H8 := Aside0.mk h7
        clear h7 hW7 gb6 gf6 hcv6
        refine (Version17_any m HC.out.2.2.2.1 A 8 c W7 HC.out.2.2.2.2.1 (Kd.C_below HC.out.2.1 H8.out.2.2.2.1) (by omega) k2 hk24).mono ?_
        rintro e w8 ⟨u8, rfl, hR8, hB8⟩
        obtain ⟨A8, c8, rfl, hc8, hC8⟩ := Kd.R_reads hR8
        have hl8 : (ints (verL m k2)).length = L := by rw [ints_len, verL_len, HC.out.2.2.2.2.1]; exact H2.out.2.2.2.2.2
        rw [hl8] at hc8 hC8 ⊢
        have hLb : L ≤ 1000 := by have := H2.out.2.2.2.2.2; omega
        have hap := Apart_any p (verL m k2) A6 A8 c6 c8 L w8 H8.out.2.2.2.2.2.2.2 (by rw [← ints_len]; exact hl8) (by omega) (Kd.C_below H8.out.2.1 hB8) hC8 H8.out.2.2.2.2.1 hc8
        have hrs2 := HE.out.2.2.2.2.2.2.1.next hk24 H8.out.2.2.2.2.2.2.1 H8.out.2.2.2.2.2.2.2
        have htn : turned (code (msgB m)) L ((k2, p) :: rs) = turned (code (msgB m)) L rs + apart p (verL m k2) := by
          show _ = turned (code (msgB m)) L rs + apart p (pickl (code (msgB m)) k2 (8 * (m.length + 4) + 6))
          rw [HC.out.2.2.2.2.1, H2.out.2.2.2.2.2]
          rfl
        obtain ⟨D, hD⟩ : ∃ D, apart p (verL m k2) = D := ⟨_, rfl⟩
        rw [hD] at hap htn
        rw [HE.out.2.2.2.2.2.2.2.2.2] at htn
        have htl := turned_le (code (msgB m)) L _ hrs2.len
        rw [hrs2.num, htn] at htl
        have htl2 : (i + 1) * L ≤ 7 * 1000 := Nat.mul_le_mul (by omega) hLb
        have hTb : (T : Int) + (D : Int) ≤ 7000 := by omega
        have H9 := Aside0.mk (And.intro hap (And.intro hrs2 (And.intro htn hB8)))
        clear hap hrs2 htn hB8 hR8 hC8 hc8 hl8 hLb htl htl2 hD
        go_wp2_with fail
        refine H9.out.1.mono ?_
        rintro e w9 ⟨rfl, q9, hq9⟩
        have hB9 : Below W7.heap.size W7 w9 := by
          rw [hq9]
          exact H9.out.2.2.2.trans (pw_below_drewN (Below.refl _ _) q9)
        clear hq9
        have hP9 := H8.out.2.2.1.below hB9
        have hof := Offer_all w.heap.size b sb 8 8 i (softs L rs) (fun v => cnt v rs) k2 hk24 p H8.out.2.2.2.2.2.2.1 L H2.out.2.2.2.2.2 H8.out.2.2.2.2.2.2.2 A6 c6 H8.out.2.2.2.2.1 w9 hP9.is (by omega) hP9.in_ (Kd.C_below H8.out.2.1 hB9) H8.out.2.2.2.2.2.1 hP9.taps hP9.zero
        have hB09 := H8.out.2.2.2.1.trans (hB9.mono H8.out.2.2.2.1.size)
        have HF := Aside0.mk (And.intro hof (And.intro hP9 (And.intro hB09 (below_cell_blk hB9 H8.out.1))))
        clear hof hP9 hB9 hB09
        have hw3 : wrap64 ((T : Int) + (D : Int)) = (T : Int) + (D : Int) := wrap64_in _ (by omega) (by omega)
        go_wp2_with fail
        refine HF.out.1.mono ?_
        rintro e w10 ⟨u10, b10, sb10, rfl, hR10, hI10, hs10, hC10⟩
        have hP10 := HF.out.2.1.next (u := u10) (e := .returned u10) hI10 hs10 hC10
        have hB10 : Below w.heap.size w w10 := HF.out.2.1.keeps (Nat.le_refl _) hC10 HF.out.2.2.1 (Nat.le_refl _)
        have hbox10 := box_off HF.out.2.1.is hC10 HF.out.2.2.2
        have hX : addv (offX 8 8 i (softs L rs)) k2 p (8 * (8 + 4) + 6) = softs L ((k2, p) :: rs) := by rw [offX_same (by omega), H2.out.2.2.2.2.2]; rfl
        have hY : bump (offS 8 8 i (fun v => cnt v rs)) k2 = fun v => cnt v ((k2, p) :: rs) := by rw [offS_same (by omega)]; exact bump_cnt rs k2 p
        rw [hX, hY, offN_same (by omega)] at hP10
        rw [hX] at hR10 ⊢
        have htn := H9.out.2.2.1
        have hmend : ∀ best at_, Pot (fun v => cnt v ((k2, p) :: rs)) best at_ → 2 * (T + D) < best → hRes (8 * (8 + 4)) k2 p (softs L ((k2, p) :: rs)) = some m := fun best at_ hP hlt => hRes_mends HC.out.2.2.2.1 HC.out.2.2.2.2.1 (by omega) H2.out.2.2.2.2.2 H9.out.2.1 (by omega) hP (by rw [htn]; exact hlt) p
        have hcell0 := blk_cell hbox10 0
        have hcell1 := blk_cell hbox10 1
        have hcell2 := blk_cell hbox10 2
        have hcell3 := blk_cell hbox10 3
        simp only [List.getElem?_toArray, List.getElem?_cons_zero, List.getElem?_cons_succ] at hcell0 hcell1 hcell2 hcell3
        have hleast := Least_any (fun v => cnt v ((k2, p) :: rs)) (fun v => by have h1 := cnt_few v ((k2, p) :: rs); rw [H9.out.2.1.num] at h1; omega) w10
        generalize hr : hRes _ _ _ _ = r at hP10 hR10 hmend ⊢
        have HG := Aside0.mk (And.intro hP10 (And.intro hR10 (And.intro hmend (And.intro hleast (And.intro hB10 (And.intro hbox10 htn))))))
        clear hP10 hR10 hmend hleast hB10 hI10 hs10 hC10 hbox10 hX hY htn hr
        have hw4 : wrap64 (2 * ((T : Int) + (D : Int))) = 2 * ((T : Int) + (D : Int)) := wrap64_in _ (by omega) (by omega)
        go_wp2_with fail
        refine HG.out.2.2.2.1.mono ?_
        rintro e w11 ⟨best, ats, rfl, hPot, hB11⟩
        have hB011 := HG.out.2.2.2.2.1.trans (hB11.mono HG.out.2.2.2.2.1.size)
        have HL := Aside0.mk (And.intro hPot (And.intro hB11 hB011))
        clear hPot hB11 hB011
        by_cases hlt : 2 * (T + D) < best
        · have hlti : 2 * ((T : Int) + (D : Int)) < (best : Int) := by omega
          have hsome := HG.out.2.2.1 best ats HL.out.1 hlt
          subst hsome
          have he : hE (some m) = 0 := rfl
          rw [he]
          obtain ⟨A7, c7, e7, hc7, hC7⟩ := Kd.R_reads HG.out.2.1
          have hl7 : (ints ((some m).getD [])).length = 8 := by rw [ints_len]; exact HC.out.2.2.2.2.1
          rw [hl7] at e7 hC7
          subst e7
          have k1 : (convert 22 9 (.slice A7 8 c7)).run Tryd.prog w11 = .ok (.string S) w11 := by rw [← HC.out.2.2.2.2.2.2]; exact Kd.C_string Tryd.underlying22 Tryd.underlying5 Tryd.underlying9 (Kd.C_below hC7 HL.out.2.1)
          have k3 : (convert 22 9 (.slice A 8 c)).run Tryd.prog w11 = .ok (.string S) w11 := by rw [← HC.out.2.2.2.2.2.2]; exact Kd.C_string Tryd.underlying22 Tryd.underlying5 Tryd.underlying9 (Kd.C_below HC.out.2.1 HL.out.2.2)
          clear hC7 hc7 hl7 he
          go_wp2_with fail
          go_ret
          exact ⟨rfl, HL.out.2.2⟩
        · have hlti : ¬ 2 * ((T : Int) + (D : Int)) < (best : Int) := by omega
          cases r with
          | some m1 =>
            have he : hE (some m1) = 0 := rfl
            rw [he]
            clear he
            go_wp2_with fail
            go_ret
            exact ⟨rfl, HL.out.2.2⟩
          | none =>
            have he : hE none = 12 := rfl
            rw [he]
            clear he
            go_wp2
            exact ⟨⟨i + 1, b10, sb10, (k2, p) :: rs, by rw [HG.out.2.2.2.2.2.2]; exact congrArg (Value.int IntKind.i64) (by omega), by go_num, by omega, H9.out.2.1, below_cell_blk HL.out.2.1 HG.out.2.2.2.2.2.1, HL.out.2.2, HG.out.1.below HL.out.2.1⟩, by simp only [intOf]; omega⟩
      · have hi6i : ¬ (i : Int) < 6 := by omega
        have d1 : decide ((i : Int) < 6) = false := decide_eq_false hi6i
        have d2 : decide (i < 6) = false := decide_eq_false hi6
        have HE := Aside0.mk (And.intro hB hP)
        clear hB hP
        go_wp2_with fail
        go_ret
        exact ⟨rfl, HE.out.1⟩
    · have hiRi : ¬ (i : Int) < (R : Int) := by omega
      have HE := Aside0.mk (And.intro hB hP)
      clear hB hP
      go_wp2_with fail
      go_ret
      exact ⟨rfl, HE.out.1⟩
theorem hmends_any (A Ar : Option Addr) (n c R cr : Nat) (l : List Int) (row : List HRow) (w : World) (hC : (Kd.int .u8).C w A n l) (hb : ∀ x ∈ l, 0 ≤ x ∧ x ≤ 255) (hc : n ≤ c) (hl : n ≤ 140737488355328) (hR : HC5.C w Ar R row) (hRl : R ≤ 140737488355328) (hRc : R ≤ cr) (ht : Taps w) :
    Calls Tryd.prog 4 #[.slice A n c, .slice Ar R cr] w fun e w' => e = .returned (.bool true) ∧ Below w.heap.size w w' := by
  have hi := nats_ints (fun x hx => (hb x hx).1)
  have hln := Kd.C_len hC
  have hlt := nats_lt hb
  rw [← hi] at hC
  by_cases h4 : n ≤ 8
  · exact hmends_few A Ar n c R cr _ row w (by rw [List.length_map]; exact hln) hC hlt hc hl h4 hR hRl hRc ht
  · obtain ⟨g, o, hA, _⟩ := row_formK hC (by omega)
    subst hA
    have hC4 := C_part (m := 8) hC (by rw [List.length_map]; exact hln) (by omega)
    exact hmends_cut _ Ar n c R cr _ row w (by rw [List.length_take, List.length_map, hln]; omega) hC4 (fun x hx => hlt x (List.mem_of_mem_take hx)) hc hl (by omega) hR hRl hRc ht
end Go.Proofs.YtnejnnfjbhpigaaDoor.Vit
