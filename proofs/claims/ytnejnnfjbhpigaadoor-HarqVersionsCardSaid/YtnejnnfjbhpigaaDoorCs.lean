/- harq's Offer that begins anew, and those that offer nothing. -/
import Derived.Test.YtnejnnfjbhpigaaDoorCp
import Derived.Test.YtnejnnfjbhpigaaDoorWp
import Derived.Lib.SlBytesConst
namespace Go.Proofs.YtnejnnfjbhpigaaDoor.Vit
open Go.RowKit Go.Proofs.YtnejnnfjbhpigaaDoorW.PrintWords Go.Proofs.YtnejnnfjbhpigaaDoorW.PrintLast Go.Proofs.YtnejnnfjbhpigaaDoorW.PrintMore Go.Proofs.YtnejnnfjbhpigaaDoor.Mem Go.Proofs.YtnejnnfjbhpigaaDoor.Crc
attribute [local go_sem] max2_int min2_int max_two min_two max_three min_three max_four min_four   -- for this text's walks alone
set_option linter.unusedVariables false
set_option linter.unusedSimpArgs false

open Go.Proofs.YtnejnnfjbhpigaaDoor.Chk
theorem C_lt {p : List Nat} {W : World} {A : Option Addr} {L : Nat} (hC : (Kd.int .u8).C W A L (ints p)) (h : 0 < L) (ad : Addr) (hA : A = some ad) : ad.block < W.heap.size := by
  obtain ⟨b, o, hA', hc⟩ := row_formK hC h
  rw [hA'] at hA
  injection hA with hA
  subst hA
  exact lies_lt (hc 0 h)
theorem off_begin {W W0 W1 : World} {pb b sb n N v : Nat} {xs : List Int} {cs : Nat → Nat} {came : Nat} {p : List Nat} {A : Option Addr} {L b1 sb1 c1 : Nat} {xs1 : List Int} {cs1 : Nat → Nat} (hB0 : Below W.heap.size W W0) (hI : IsP W pb b sb N xs cs came false)
    (hC : (Kd.int .u8).C W A L (ints p)) (hL : 0 < L) (hA : ∀ ad, A = some ad → ¬ PS3 pb b sb ad.block) (hT : Taps W) (h0 : ¬ PS3 pb b sb 0) (hb1 : W0.heap.size = b1) (hsb1 : W0.heap.size + 1 = sb1) (hx : List.replicate (4 * (8 * (n + 4) + 6)) (0 : Int) = xs1) (hc1 : (0 : Nat) = c1)
    (hIb : IsP W1 pb b1 sb1 n xs1 cs1 c1 false) (hCb : Chg (fun k => k = pb) W0 W1) :
    IsP W1 pb b1 sb1 n xs1 cs1 c1 false ∧ Chg (PS3 pb b sb) W W1 ∧ (Kd.int .u8).C W1 A L (ints p) ∧ Taps W1 ∧ (∀ x ∈ xs1, -31 ≤ x ∧ x ≤ 31) ∧ c1 < 16 ∧ ¬ PS3 pb b1 sb1 0 ∧ (∀ ad, A = some ad → ¬ PS3 pb b1 sb1 ad.block) := by
  have hs := hB0.size
  have ht := hT.2.2.2.2
  refine ⟨hIb, (Chg.of_below hB0 _).trans hCb (fun i _ h => .inl h), C_chg (Kd.C_below hC hB0) hCb (fun ad ha h => hA ad ha (.inl h)), (hT.below hB0).chg hCb (fun h => h0 (.inl h)), ?_, by omega, ?_, ?_⟩
  · intro x h
    rw [← hx] at h
    obtain ⟨_, rfl⟩ := List.mem_replicate.1 h
    omega
  · rintro (h | h | h)
    · exact h0 (.inl h)
    · omega
    · omega
  · intro ad ha h
    have hl := C_lt hC hL ad ha
    rcases h with h | h | h
    · exact hA ad ha (.inl h)
    · omega
    · omega
set_option maxHeartbeats 3200000 in
set_option maxRecDepth 100000 in
theorem Offer_other (pb b sb n N came : Nat) (xs : List Int) (cs : Nat → Nat) (v : Nat) (hv : v < 4) (p : List Nat) (hp : Bits p) (hpl : p.length = 8 * (n + 4) + 6) (A : Option Addr) (L c : Nat) (hL : 8 * (n + 4) + 6 = L) (hLc : L ≤ c) (W : World)
    (hI : IsP W pb b sb N xs cs came false) (hcm : n ≠ N) (hle : n ≤ 64) (hC : (Kd.int .u8).C W A L (ints p)) (hA : ∀ ad, A = some ad → ¬ PS3 pb b sb ad.block) (hT : Taps W) (h0 : ¬ PS3 pb b sb 0)
    (xs1 : List Int) (cs1 : Nat → Nat) (c1 : Nat) (hx1 : List.replicate (4 * (8 * (n + 4) + 6)) (0 : Int) = xs1) (hcs1 : (fun _ => 0) = cs1) (hc1 : (0 : Nat) = c1) :
    Calls Tryd.prog 10 #[.pointer (some ⟨pb, 0, none⟩), .int .i64 (n : Int), .int .i64 (v : Int), .slice A L c] W (OffPost W pb b sb n v p xs1 cs1 c1) := by
  have hhr := hright_any (n : Int) (v : Int) (ints p) A L c W hC hLc (by omega)
  have hhe : hErr (n : Int) (v : Int) (ints p) = 0 := by
    unfold hErr
    rw [if_neg (by omega), if_neg (by omega), if_neg (fun ⟨x, hx, h1⟩ => by
      obtain ⟨y, hy, rfl⟩ := List.mem_map.1 hx
      have := hp y hy
      omega), if_neg (by rw [ints_len]; omega)]
  rw [hhe] at hhr
  have c3 : W.cell? ⟨pb, 3, none⟩ = some (.bool false) := blk_cell hI.blk 3
  have HC := Aside0.mk (And.intro hle (And.intro hv (And.intro hp (And.intro hpl (And.intro hL (And.intro hLc (And.intro hhr (And.intro hI (And.intro hC (And.intro hT (And.intro hx1 (And.intro hA h0))))))))))))
  have HQ := Aside0.mk (And.intro hcs1 hc1)
  have hnN : ((n : Int) == (N : Int)) = false := by rw [beq_eq_false_iff_ne]; omega
  have hnN2 : ¬ (n : Int) = (N : Int) := by omega
  clear hle hv hp hpl hLc hhr hhe hI hC hT hA h0 hcm hL hx1 hcs1 hc1
  go_enter Tryd.func10, Tryd.ntmps10
  go_wp2_with fail
  refine HC.out.2.2.2.2.2.2.1.mono ?_
  rintro e W0 ⟨rfl, hB0⟩
  have hI0 := HC.out.2.2.2.2.2.2.2.1.below hB0
  have k0 := blk_cell hI0.blk 0
  have k2 := blk_cell hI0.blk 2
  simp at k0 k2
  have hbg := begin_any pb n _ _ _ _ W0 hI0.blk HC.out.1
  have H0 := Aside0.mk (And.intro hB0 hbg)
  clear hB0 hbg hI0
  go_wp2_with fail
  refine H0.out.2.mono ?_
  rintro e W1 ⟨rfl, hIb, hCb⟩
  obtain ⟨b1, hb1⟩ : ∃ b1, W0.heap.size = b1 := ⟨_, rfl⟩
  obtain ⟨sb1, hsb1⟩ : ∃ sb1, W0.heap.size + 1 = sb1 := ⟨_, rfl⟩
  rw [HC.out.2.2.2.2.2.2.2.2.2.2.1, HQ.out.1, HQ.out.2, hsb1, hb1] at hIb
  have HSB := Aside0.mk (And.intro hb1 hsb1)
  have HSEP := Aside0.mk (show SepB W b sb b1 sb1 from by have := H0.out.1.size; unfold SepB; omega)
  have HP := Aside0.mk (off_begin (v := v) H0.out.1 HC.out.2.2.2.2.2.2.2.1 HC.out.2.2.2.2.2.2.2.2.1 (by have := HC.out.2.2.2.2.1; omega) HC.out.2.2.2.2.2.2.2.2.2.2.2.1 HC.out.2.2.2.2.2.2.2.2.2.1 HC.out.2.2.2.2.2.2.2.2.2.2.2.2 hb1 hsb1 HC.out.2.2.2.2.2.2.2.2.2.2.1 HQ.out.2 hIb hCb)
  clear hb1 hsb1 hIb hCb k0 k2
  have M1 : W1.cell? ⟨pb, 1, none⟩ = some (.pointer (some ⟨b1, 0, none⟩)) := blk_cell HP.out.1.blk 1
  have hadd := Add_ok W1 b1 sb1 (8 * (n + 4)) xs1 cs1 HP.out.1.buf v HC.out.2.1 (Nat.le_trans (HP.out.1.cnt v) (by have := HP.out.1.few; omega)) p HC.out.2.2.1 HC.out.2.2.2.1 A c (by rw [HC.out.2.2.2.2.1]; exact HP.out.2.2.1) (by rw [HC.out.2.2.2.2.1]; exact HC.out.2.2.2.2.2.1)
  rw [HC.out.2.2.2.2.1] at hadd
  have HA := Aside0.mk hadd
  clear hadd
  go_wp2_with fail
  refine HA.out.mono ?_
  rintro e w2 ⟨rfl, hI2, hC2⟩
  rw [← HC.out.2.2.2.2.1] at hI2
  have hne := HP.out.1.ne
  have hbk2 := hC2.keeps HP.out.1.blk (by show ¬ (pb = b1 ∨ pb = sb1); exact fun h => h.elim hne.1 hne.2)
  have c2 : w2.cell? ⟨pb, 2, none⟩ = some (.int .i64 (c1 : Nat)) := blk_cell hbk2 2
  have f2 : w2.frozen? ⟨pb, 2, none⟩ = false := blk_frozen hbk2 2
  have hS3 : Chg (PS3 pb b1 sb1) W1 (w2.setCell ⟨pb, 2, none⟩ (.int .i64 ((c1 : Nat) + 1))) := (hC2.mono (fun k hk => .inr hk)).set_ (fun _ => .inl rfl) _
  have hP3 : IsP (w2.setCell ⟨pb, 2, none⟩ (.int .i64 ((c1 : Nat) + 1))) pb b1 sb1 n (addv xs1 v p (8 * (n + 4) + 6)) (bump cs1 v) (c1 + 1) false :=
    by
      rw [show ((c1 : Nat) : Int) + 1 = ((c1 + 1 : Nat) : Int) from by omega]
      exact ⟨blk_set hbk2 2 _, hI2.chg (Chg.set_ (S := fun k => k = pb) (Chg.refl _ _) (p := ⟨pb, 2, none⟩) (fun _ => rfl) _) (fun h => hne.1 h.symm) (fun h => hne.2 h.symm), HP.out.1.le, by have := HP.out.2.2.2.2.2.1; omega, fun z => by have h1 := HP.out.1.cnt z; have h2 := HP.out.1.cnt v; unfold bump; split <;> omega⟩
  have hT3 := HP.out.2.2.2.1.chg hS3 HP.out.2.2.2.2.2.2.1
  have hC3 := C_chg HP.out.2.2.1 hS3 HP.out.2.2.2.2.2.2.2
  have hb3 : ∀ x ∈ addv xs1 v p (8 * (n + 4) + 6), -31 ≤ x ∧ x ≤ 31 := addv_in _ _ _ HP.out.2.2.2.2.1 _
  obtain ⟨X, hX⟩ : ∃ X, addv xs1 v p (8 * (n + 4) + 6) = X := ⟨_, rfl⟩
  rw [hX] at hP3 hb3
  have hcb : (c1 : Int) < 16 := by have := HP.out.2.2.2.2.2.1; omega
  have H3 := Aside0.mk (And.intro hP3 (And.intro hS3 (And.intro hT3 (And.intro hC3 (And.intro hb3 hX)))))
  clear hI2 hC2 hbk2 hS3 hP3 hT3 hC3 hb3 hX hne
  go_upto_region 16 with fail
  obtain ⟨w3, hw3⟩ : ∃ w3, w2.setCell ⟨pb, 2, none⟩ (.int .i64 ((c1 : Int) + 1)) = w3 := ⟨_, rfl⟩
  rw [hw3] at H3 ⊢
  obtain ⟨hP3, hS3, hT3, hC3, hb3, hX⟩ := H3.out
  have M2 : w3.cell? ⟨pb, 1, none⟩ = some (.pointer (some ⟨b1, 0, none⟩)) := blk_cell hP3.blk 1
  have hM := HC.out.1
  have hdec := BDecode_any w3 b1 sb1 (8 * (n + 4)) X (bump cs1 v) hP3.buf hT3
  obtain ⟨d1, d2⟩ := decOf_h (M := 8 * (n + 4)) hP3.buf.len (by omega) hb3
  rw [d1, d2] at hdec
  have HD := Aside0.mk hdec
  clear hw3 M1 c2 f2 hdec d1 d2 hP3 hS3 hT3 hC3 hb3 hX hM
  go_wp2_with fail
  refine HD.out.mono ?_
  rintro e w4 ⟨u4, rfl, hR4, hB4⟩
  have hop := hopen_ok (hDec (8 * (n + 4)) X) (hDec_bits _ _) (by rw [hDec_len]; have := HC.out.1; omega) u4 w4 _ _ hR4
  obtain ⟨r1, hr1⟩ : ∃ r1, openB (bytesB (hDec (8 * (n + 4)) X)) = r1 := ⟨_, rfl⟩
  rw [hr1] at hop
  have HO := Aside0.mk (And.intro hop (And.intro hr1 hB4))
  clear hop hr1 hR4 hB4
  go_wp2_with fail
  refine HO.out.1.mono ?_
  rintro e w5 ⟨u5, rfl, hR5, hB5⟩
  have hB35 : Below w3.heap.size w3 w5 := HO.out.2.2.trans (hB5.mono HO.out.2.2.size)
  have hP5 := H3.out.1.below hB35
  have f5 : w5.frozen? ⟨pb, 3, none⟩ = false := blk_frozen hP5.blk 3
  have c5 : w5.cell? ⟨pb, 3, none⟩ = some (.bool false) := blk_cell hP5.blk 3
  have H5 := Aside0.mk (And.intro hR5 (And.intro hB35 hP5))
  clear hR5 hB5 hB35 hP5
  cases r1 with
  | some m1 =>
    have hres : hRes (8 * (n + 4)) v p X = some m1 := hRes_dec HO.out.2.1
    have HRES := Aside0.mk hres
    clear hres
    go_wp2
    go_ret2
    exact off_done HP.out.2.1 H3.out.2.2.2.2.2 HRES.out H3.out.2.1 H5.out.2.1 H5.out.2.2 (Kd.R_lower H5.out.1 HO.out.2.2.size) (fun k hk => Nat.le_trans HO.out.2.2.size hk) HSEP.out (by first | rfl | exact HSB.out)
  | none =>
    have hres := hRes_alone (v := v) (p := p) HO.out.2.1
    have hal := Alone_any p HC.out.2.2.1 v HC.out.2.1 A L c (8 * (n + 4)) w5 (by rw [HC.out.2.2.2.1]; exact HC.out.2.2.2.2.1) HC.out.2.2.2.2.1.symm (Kd.C_below H3.out.2.2.2.1 H5.out.2.1) HC.out.2.2.2.2.2.1 (by have := HC.out.1; have := HC.out.2.2.2.2.1; omega) (H3.out.2.2.1.below H5.out.2.1)
    rw [← HC.out.2.2.2.2.1] at hal
    by_cases hok : aOk p v (8 * (n + 4)) (8 * (n + 4) + 6) = true
    · rw [if_pos hok] at hres
      have he : alE p v (8 * (n + 4)) (8 * (n + 4) + 6) = 0 := by unfold alE; rw [if_pos hok]
      have hl : alL p v (8 * (n + 4)) (8 * (n + 4) + 6) = mapL (aB p v) (8 * (n + 4)) := by unfold alL; rw [if_pos hok]
      rw [he, hl, HC.out.2.2.2.2.1] at hal
      have HAL := Aside0.mk hal
      have HRES := Aside0.mk hres
      clear hal hres he hl hok
      go_wp2_with fail
      refine HAL.out.mono ?_
      rintro e w6 ⟨u6, rfl, hR6, hB6⟩
      have hop := hopen_ok (mapL (aB p v) (8 * (n + 4))) (mapL_bits (aB_le p v) _) (by rw [mapL_len]; have := HC.out.1; omega) u6 w6 _ _ hR6
      obtain ⟨r2, hr2⟩ : ∃ r2, openB (bytesB (mapL (aB p v) (8 * (n + 4)))) = r2 := ⟨_, rfl⟩
      rw [hr2] at hop
      have HO2 := Aside0.mk (And.intro hop (And.intro hr2 hB6))
      clear hop hr2 hR6 hB6
      go_wp2_with fail
      refine HO2.out.1.mono ?_
      rintro e w7 ⟨u7, rfl, hR7, hB7⟩
      have hB57 : Below w5.heap.size w5 w7 := HO2.out.2.2.trans (hB7.mono HO2.out.2.2.size)
      have hP7 := H5.out.2.2.below hB57
      have f7 : w7.frozen? ⟨pb, 3, none⟩ = false := blk_frozen hP7.blk 3
      have c7 : w7.cell? ⟨pb, 3, none⟩ = some (.bool false) := blk_cell hP7.blk 3
      have H7 := Aside0.mk (And.intro hR7 (And.intro (H5.out.2.1.trans (hB57.mono H5.out.2.1.size)) hP7))
      have hres2 := HRES.out.trans HO2.out.2.1
      have HRES2 := Aside0.mk hres2
      clear hR7 hB7 hB57 hP7 hres2
      have h37 : w3.heap.size ≤ w6.heap.size := Nat.le_trans H5.out.2.1.size HO2.out.2.2.size
      have H37 := Aside0.mk h37
      clear h37
      cases r2 with
      | some m2 =>
        go_wp2
        go_ret2
        exact off_done HP.out.2.1 H3.out.2.2.2.2.2 HRES2.out H3.out.2.1 H7.out.2.1 H7.out.2.2 (Kd.R_lower H7.out.1 H37.out) (fun k hk => Nat.le_trans H37.out hk) HSEP.out (by first | rfl | exact HSB.out)
      | none =>
        go_wp2
        go_ret2
        exact off_none HP.out.2.1 H3.out.2.2.2.2.2 HRES2.out H3.out.2.1 H7.out.2.1 H7.out.2.2 HSEP.out (by first | rfl | exact HSB.out)
    · rw [if_neg hok] at hres
      have he : alE p v (8 * (n + 4)) (8 * (n + 4) + 6) = 13 := by unfold alE; rw [if_neg hok]
      rw [he, HC.out.2.2.2.2.1] at hal
      have HAL := Aside0.mk hal
      have HRES := Aside0.mk hres
      clear hal hres he hok
      go_wp2_with (first
        | (go_at_call 28; refine HAL.out.mono ?_; rintro e w6 ⟨u6, rfl, hR6, hB6⟩; have H6 := Aside0.mk hB6; clear hR6 hB6)
        | (go_at_call 26; refine (hopen_bad _ 13 (by decide) _).mono ?_; rintro e w7 ⟨rfl, rfl⟩))
      go_ret2
      exact off_none HP.out.2.1 H3.out.2.2.2.2.2 HRES.out H3.out.2.1 (H5.out.2.1.trans (H6.out.mono H5.out.2.1.size)) (H5.out.2.2.below H6.out) HSEP.out (by first | rfl | exact HSB.out)
set_option maxHeartbeats 3200000 in
set_option maxRecDepth 100000 in
theorem Offer_full (pb b sb n N came : Nat) (xs : List Int) (cs : Nat → Nat) (v : Nat) (hv : v < 4) (p : List Nat) (hp : Bits p) (hpl : p.length = 8 * (n + 4) + 6) (A : Option Addr) (L c : Nat) (hL : 8 * (n + 4) + 6 = L) (hLc : L ≤ c) (W : World)
    (hI : IsP W pb b sb N xs cs came false) (hcm : n = N ∧ came = 16) (hle : n ≤ 64) (hC : (Kd.int .u8).C W A L (ints p)) (hA : ∀ ad, A = some ad → ¬ PS3 pb b sb ad.block) (hT : Taps W) (h0 : ¬ PS3 pb b sb 0)
    (xs1 : List Int) (cs1 : Nat → Nat) (c1 : Nat) (hx1 : List.replicate (4 * (8 * (n + 4) + 6)) (0 : Int) = xs1) (hcs1 : (fun _ => 0) = cs1) (hc1 : (0 : Nat) = c1) :
    Calls Tryd.prog 10 #[.pointer (some ⟨pb, 0, none⟩), .int .i64 (n : Int), .int .i64 (v : Int), .slice A L c] W (OffPost W pb b sb n v p xs1 cs1 c1) := by
  obtain ⟨rfl, hc16⟩ := hcm
  have hcm := hc16
  subst hc16
  have hhr := hright_any (n : Int) (v : Int) (ints p) A L c W hC hLc (by omega)
  have hhe : hErr (n : Int) (v : Int) (ints p) = 0 := by
    unfold hErr
    rw [if_neg (by omega), if_neg (by omega), if_neg (fun ⟨x, hx, h1⟩ => by
      obtain ⟨y, hy, rfl⟩ := List.mem_map.1 hx
      have := hp y hy
      omega), if_neg (by rw [ints_len]; omega)]
  rw [hhe] at hhr
  have c3 : W.cell? ⟨pb, 3, none⟩ = some (.bool false) := blk_cell hI.blk 3
  have HC := Aside0.mk (And.intro hle (And.intro hv (And.intro hp (And.intro hpl (And.intro hL (And.intro hLc (And.intro hhr (And.intro hI (And.intro hC (And.intro hT (And.intro hx1 (And.intro hA h0))))))))))))
  have HQ := Aside0.mk (And.intro hcs1 hc1)
  clear hle hv hp hpl hLc hhr hhe hI hC hT hA h0 hcm hL hx1 hcs1 hc1
  go_enter Tryd.func10, Tryd.ntmps10
  go_wp2_with fail
  refine HC.out.2.2.2.2.2.2.1.mono ?_
  rintro e W0 ⟨rfl, hB0⟩
  have hI0 := HC.out.2.2.2.2.2.2.2.1.below hB0
  have k0 := blk_cell hI0.blk 0
  have k2 := blk_cell hI0.blk 2
  simp at k0 k2
  have hbg := begin_any pb n _ _ _ _ W0 hI0.blk HC.out.1
  have H0 := Aside0.mk (And.intro hB0 hbg)
  clear hB0 hbg hI0
  go_wp2_with fail
  refine H0.out.2.mono ?_
  rintro e W1 ⟨rfl, hIb, hCb⟩
  obtain ⟨b1, hb1⟩ : ∃ b1, W0.heap.size = b1 := ⟨_, rfl⟩
  obtain ⟨sb1, hsb1⟩ : ∃ sb1, W0.heap.size + 1 = sb1 := ⟨_, rfl⟩
  rw [HC.out.2.2.2.2.2.2.2.2.2.2.1, HQ.out.1, HQ.out.2, hsb1, hb1] at hIb
  have HSB := Aside0.mk (And.intro hb1 hsb1)
  have HSEP := Aside0.mk (show SepB W b sb b1 sb1 from by have := H0.out.1.size; unfold SepB; omega)
  have HP := Aside0.mk (off_begin (v := v) H0.out.1 HC.out.2.2.2.2.2.2.2.1 HC.out.2.2.2.2.2.2.2.2.1 (by have := HC.out.2.2.2.2.1; omega) HC.out.2.2.2.2.2.2.2.2.2.2.2.1 HC.out.2.2.2.2.2.2.2.2.2.1 HC.out.2.2.2.2.2.2.2.2.2.2.2.2 hb1 hsb1 HC.out.2.2.2.2.2.2.2.2.2.2.1 HQ.out.2 hIb hCb)
  clear hb1 hsb1 hIb hCb k0 k2
  have M1 : W1.cell? ⟨pb, 1, none⟩ = some (.pointer (some ⟨b1, 0, none⟩)) := blk_cell HP.out.1.blk 1
  have hadd := Add_ok W1 b1 sb1 (8 * (n + 4)) xs1 cs1 HP.out.1.buf v HC.out.2.1 (Nat.le_trans (HP.out.1.cnt v) (by have := HP.out.1.few; omega)) p HC.out.2.2.1 HC.out.2.2.2.1 A c (by rw [HC.out.2.2.2.2.1]; exact HP.out.2.2.1) (by rw [HC.out.2.2.2.2.1]; exact HC.out.2.2.2.2.2.1)
  rw [HC.out.2.2.2.2.1] at hadd
  have HA := Aside0.mk hadd
  clear hadd
  go_wp2_with fail
  refine HA.out.mono ?_
  rintro e w2 ⟨rfl, hI2, hC2⟩
  rw [← HC.out.2.2.2.2.1] at hI2
  have hne := HP.out.1.ne
  have hbk2 := hC2.keeps HP.out.1.blk (by show ¬ (pb = b1 ∨ pb = sb1); exact fun h => h.elim hne.1 hne.2)
  have c2 : w2.cell? ⟨pb, 2, none⟩ = some (.int .i64 (c1 : Nat)) := blk_cell hbk2 2
  have f2 : w2.frozen? ⟨pb, 2, none⟩ = false := blk_frozen hbk2 2
  have hS3 : Chg (PS3 pb b1 sb1) W1 (w2.setCell ⟨pb, 2, none⟩ (.int .i64 ((c1 : Nat) + 1))) := (hC2.mono (fun k hk => .inr hk)).set_ (fun _ => .inl rfl) _
  have hP3 : IsP (w2.setCell ⟨pb, 2, none⟩ (.int .i64 ((c1 : Nat) + 1))) pb b1 sb1 n (addv xs1 v p (8 * (n + 4) + 6)) (bump cs1 v) (c1 + 1) false :=
    by
      rw [show ((c1 : Nat) : Int) + 1 = ((c1 + 1 : Nat) : Int) from by omega]
      exact ⟨blk_set hbk2 2 _, hI2.chg (Chg.set_ (S := fun k => k = pb) (Chg.refl _ _) (p := ⟨pb, 2, none⟩) (fun _ => rfl) _) (fun h => hne.1 h.symm) (fun h => hne.2 h.symm), HP.out.1.le, by have := HP.out.2.2.2.2.2.1; omega, fun z => by have h1 := HP.out.1.cnt z; have h2 := HP.out.1.cnt v; unfold bump; split <;> omega⟩
  have hT3 := HP.out.2.2.2.1.chg hS3 HP.out.2.2.2.2.2.2.1
  have hC3 := C_chg HP.out.2.2.1 hS3 HP.out.2.2.2.2.2.2.2
  have hb3 : ∀ x ∈ addv xs1 v p (8 * (n + 4) + 6), -31 ≤ x ∧ x ≤ 31 := addv_in _ _ _ HP.out.2.2.2.2.1 _
  obtain ⟨X, hX⟩ : ∃ X, addv xs1 v p (8 * (n + 4) + 6) = X := ⟨_, rfl⟩
  rw [hX] at hP3 hb3
  have hcb : (c1 : Int) < 16 := by have := HP.out.2.2.2.2.2.1; omega
  have H3 := Aside0.mk (And.intro hP3 (And.intro hS3 (And.intro hT3 (And.intro hC3 (And.intro hb3 hX)))))
  clear hI2 hC2 hbk2 hS3 hP3 hT3 hC3 hb3 hX hne
  go_upto_region 16 with fail
  obtain ⟨w3, hw3⟩ : ∃ w3, w2.setCell ⟨pb, 2, none⟩ (.int .i64 ((c1 : Int) + 1)) = w3 := ⟨_, rfl⟩
  rw [hw3] at H3 ⊢
  obtain ⟨hP3, hS3, hT3, hC3, hb3, hX⟩ := H3.out
  have M2 : w3.cell? ⟨pb, 1, none⟩ = some (.pointer (some ⟨b1, 0, none⟩)) := blk_cell hP3.blk 1
  have hM := HC.out.1
  have hdec := BDecode_any w3 b1 sb1 (8 * (n + 4)) X (bump cs1 v) hP3.buf hT3
  obtain ⟨d1, d2⟩ := decOf_h (M := 8 * (n + 4)) hP3.buf.len (by omega) hb3
  rw [d1, d2] at hdec
  have HD := Aside0.mk hdec
  clear hw3 M1 c2 f2 hdec d1 d2 hP3 hS3 hT3 hC3 hb3 hX hM
  go_wp2_with fail
  refine HD.out.mono ?_
  rintro e w4 ⟨u4, rfl, hR4, hB4⟩
  have hop := hopen_ok (hDec (8 * (n + 4)) X) (hDec_bits _ _) (by rw [hDec_len]; have := HC.out.1; omega) u4 w4 _ _ hR4
  obtain ⟨r1, hr1⟩ : ∃ r1, openB (bytesB (hDec (8 * (n + 4)) X)) = r1 := ⟨_, rfl⟩
  rw [hr1] at hop
  have HO := Aside0.mk (And.intro hop (And.intro hr1 hB4))
  clear hop hr1 hR4 hB4
  go_wp2_with fail
  refine HO.out.1.mono ?_
  rintro e w5 ⟨u5, rfl, hR5, hB5⟩
  have hB35 : Below w3.heap.size w3 w5 := HO.out.2.2.trans (hB5.mono HO.out.2.2.size)
  have hP5 := H3.out.1.below hB35
  have f5 : w5.frozen? ⟨pb, 3, none⟩ = false := blk_frozen hP5.blk 3
  have c5 : w5.cell? ⟨pb, 3, none⟩ = some (.bool false) := blk_cell hP5.blk 3
  have H5 := Aside0.mk (And.intro hR5 (And.intro hB35 hP5))
  clear hR5 hB5 hB35 hP5
  cases r1 with
  | some m1 =>
    have hres : hRes (8 * (n + 4)) v p X = some m1 := hRes_dec HO.out.2.1
    have HRES := Aside0.mk hres
    clear hres
    go_wp2
    go_ret2
    exact off_done HP.out.2.1 H3.out.2.2.2.2.2 HRES.out H3.out.2.1 H5.out.2.1 H5.out.2.2 (Kd.R_lower H5.out.1 HO.out.2.2.size) (fun k hk => Nat.le_trans HO.out.2.2.size hk) HSEP.out (by first | rfl | exact HSB.out)
  | none =>
    have hres := hRes_alone (v := v) (p := p) HO.out.2.1
    have hal := Alone_any p HC.out.2.2.1 v HC.out.2.1 A L c (8 * (n + 4)) w5 (by rw [HC.out.2.2.2.1]; exact HC.out.2.2.2.2.1) HC.out.2.2.2.2.1.symm (Kd.C_below H3.out.2.2.2.1 H5.out.2.1) HC.out.2.2.2.2.2.1 (by have := HC.out.1; have := HC.out.2.2.2.2.1; omega) (H3.out.2.2.1.below H5.out.2.1)
    rw [← HC.out.2.2.2.2.1] at hal
    by_cases hok : aOk p v (8 * (n + 4)) (8 * (n + 4) + 6) = true
    · rw [if_pos hok] at hres
      have he : alE p v (8 * (n + 4)) (8 * (n + 4) + 6) = 0 := by unfold alE; rw [if_pos hok]
      have hl : alL p v (8 * (n + 4)) (8 * (n + 4) + 6) = mapL (aB p v) (8 * (n + 4)) := by unfold alL; rw [if_pos hok]
      rw [he, hl, HC.out.2.2.2.2.1] at hal
      have HAL := Aside0.mk hal
      have HRES := Aside0.mk hres
      clear hal hres he hl hok
      go_wp2_with fail
      refine HAL.out.mono ?_
      rintro e w6 ⟨u6, rfl, hR6, hB6⟩
      have hop := hopen_ok (mapL (aB p v) (8 * (n + 4))) (mapL_bits (aB_le p v) _) (by rw [mapL_len]; have := HC.out.1; omega) u6 w6 _ _ hR6
      obtain ⟨r2, hr2⟩ : ∃ r2, openB (bytesB (mapL (aB p v) (8 * (n + 4)))) = r2 := ⟨_, rfl⟩
      rw [hr2] at hop
      have HO2 := Aside0.mk (And.intro hop (And.intro hr2 hB6))
      clear hop hr2 hR6 hB6
      go_wp2_with fail
      refine HO2.out.1.mono ?_
      rintro e w7 ⟨u7, rfl, hR7, hB7⟩
      have hB57 : Below w5.heap.size w5 w7 := HO2.out.2.2.trans (hB7.mono HO2.out.2.2.size)
      have hP7 := H5.out.2.2.below hB57
      have f7 : w7.frozen? ⟨pb, 3, none⟩ = false := blk_frozen hP7.blk 3
      have c7 : w7.cell? ⟨pb, 3, none⟩ = some (.bool false) := blk_cell hP7.blk 3
      have H7 := Aside0.mk (And.intro hR7 (And.intro (H5.out.2.1.trans (hB57.mono H5.out.2.1.size)) hP7))
      have hres2 := HRES.out.trans HO2.out.2.1
      have HRES2 := Aside0.mk hres2
      clear hR7 hB7 hB57 hP7 hres2
      have h37 : w3.heap.size ≤ w6.heap.size := Nat.le_trans H5.out.2.1.size HO2.out.2.2.size
      have H37 := Aside0.mk h37
      clear h37
      cases r2 with
      | some m2 =>
        go_wp2
        go_ret2
        exact off_done HP.out.2.1 H3.out.2.2.2.2.2 HRES2.out H3.out.2.1 H7.out.2.1 H7.out.2.2 (Kd.R_lower H7.out.1 H37.out) (fun k hk => Nat.le_trans H37.out hk) HSEP.out (by first | rfl | exact HSB.out)
      | none =>
        go_wp2
        go_ret2
        exact off_none HP.out.2.1 H3.out.2.2.2.2.2 HRES2.out H3.out.2.1 H7.out.2.1 H7.out.2.2 HSEP.out (by first | rfl | exact HSB.out)
    · rw [if_neg hok] at hres
      have he : alE p v (8 * (n + 4)) (8 * (n + 4) + 6) = 13 := by unfold alE; rw [if_neg hok]
      rw [he, HC.out.2.2.2.2.1] at hal
      have HAL := Aside0.mk hal
      have HRES := Aside0.mk hres
      clear hal hres he hok
      go_wp2_with (first
        | (go_at_call 28; refine HAL.out.mono ?_; rintro e w6 ⟨u6, rfl, hR6, hB6⟩; have H6 := Aside0.mk hB6; clear hR6 hB6)
        | (go_at_call 26; refine (hopen_bad _ 13 (by decide) _).mono ?_; rintro e w7 ⟨rfl, rfl⟩))
      go_ret2
      exact off_none HP.out.2.1 H3.out.2.2.2.2.2 HRES.out H3.out.2.1 (H5.out.2.1.trans (H6.out.mono H5.out.2.1.size)) (H5.out.2.2.below H6.out) HSEP.out (by first | rfl | exact HSB.out)
/-- Nothing is offered: no process, one that is done, or a version that isn't one. -/
theorem Offer_nil (n v : Int) (u : Value) (W : World) : Calls Tryd.prog 10 #[.pointer none, .int .i64 n, .int .i64 v, u] W fun e w' => e = .returned (.tuple #[.slice none 0 0, .int .i64 1]) ∧ W = w' := by
  go_enter Tryd.func10, Tryd.ntmps10
  go_wp2
  go_ret2
  exact ⟨rfl, rfl⟩
theorem Offer_old (pb b sb N came : Nat) (xs : List Int) (cs : Nat → Nat) (n v : Int) (u : Value) (W : World) (hI : IsP W pb b sb N xs cs came true) :
    Calls Tryd.prog 10 #[.pointer (some ⟨pb, 0, none⟩), .int .i64 n, .int .i64 v, u] W fun e w' => e = .returned (.tuple #[.slice none 0 0, .int .i64 10]) ∧ W = w' := by
  have c3 : W.cell? ⟨pb, 3, none⟩ = some (.bool true) := blk_cell hI.blk 3
  clear hI
  go_enter Tryd.func10, Tryd.ntmps10
  go_wp2
  go_ret2
  exact ⟨rfl, rfl⟩
theorem Offer_bad (pb b sb N came : Nat) (xs : List Int) (cs : Nat → Nat) (n v : Int) (p : List Int) (A : Option Addr) (m c : Nat) (W : World) (hI : IsP W pb b sb N xs cs came false) (hC : (Kd.int .u8).C W A m p) (hc : m ≤ c) (hm : m ≤ 1000000) (hE : hErr n v p ≠ 0) :
    Calls Tryd.prog 10 #[.pointer (some ⟨pb, 0, none⟩), .int .i64 n, .int .i64 v, .slice A m c] W fun e w' => e = .returned (.tuple #[.slice none 0 0, .int .i64 (hErr n v p)]) ∧ Below W.heap.size W w' := by
  have hhr := hright_any n v p A m c W hC hc hm
  have c3 : W.cell? ⟨pb, 3, none⟩ = some (.bool false) := blk_cell hI.blk 3
  obtain ⟨x, hx⟩ : ∃ x, hErr n v p = x := ⟨_, rfl⟩
  rw [hx] at hhr hE ⊢
  have h1 : (x == 0) = false := by rw [beq_eq_false_iff_ne]; exact hE
  have HR := Aside0.mk hhr
  clear hI hC hc hm hhr hx
  go_enter Tryd.func10, Tryd.ntmps10
  go_wp2_with (go_at_call 24; refine HR.out.mono ?_; rintro e W0 ⟨rfl, hB0⟩; have H0 := Aside0.mk hB0; clear hB0)
  go_ret2
  exact ⟨rfl, H0.out⟩
end Go.Proofs.YtnejnnfjbhpigaaDoor.Vit

namespace Go.Proofs.YtnejnnfjbhpigaaDoor.Vit
open Go.RowKit Go.Proofs.YtnejnnfjbhpigaaDoorW.PrintWords Go.Proofs.YtnejnnfjbhpigaaDoorW.PrintLast Go.Proofs.YtnejnnfjbhpigaaDoorW.PrintMore Go.Proofs.YtnejnnfjbhpigaaDoor.Mem Go.Proofs.YtnejnnfjbhpigaaDoor.Crc
attribute [local go_sem] max2_int min2_int max_two min_two max_three min_three max_four min_four   -- for this text's walks alone
set_option linter.unusedVariables false
set_option linter.unusedSimpArgs false

open Go.Proofs.YtnejnnfjbhpigaaDoor.Chk
/-- A message's bits, with its sum. -/
def msgB (m : List Nat) : List Nat := ofB (closeB m)
theorem msgB_len (m : List Nat) : (msgB m).length = 8 * (m.length + 4) := by unfold msgB; rw [ofB_len, closeB_len]
theorem msgB_bits (m : List Nat) : Bits (msgB m) := ofB_bits _
/-- A message's version. -/
def verL (m : List Nat) (v : Nat) : List Nat := pickl (code (msgB m)) v (8 * (m.length + 4) + 6)
theorem verL_len (m : List Nat) (v : Nat) : (verL m v).length = 8 * (m.length + 4) + 6 := pickl_len _ _ _
theorem verL_bits (m : List Nat) (v : Nat) : Bits (verL m v) := pickl_bits (code_bits _) _ _
theorem byte_bits {x : Nat} (h : x < 256) : bit x 7 * 128 + bit x 6 * 64 + bit x 5 * 32 + bit x 4 * 16 + bit x 3 * 8 + bit x 2 * 4 + bit x 1 * 2 + bit x 0 = x := by
  unfold bit
  simp only [Nat.reducePow]
  omega
theorem bytes_of {b : List Nat} (hb : ∀ x ∈ b, x < 256) : bytesB (ofB b) = b := by
  apply List.ext_getElem
  · rw [bytesB_len, ofB_len]
    omega
  · intro j h1 h2
    have hg : ∀ k, k < 8 → (ofB b).getD (8 * j + k) 0 = bit b[j] (7 - k) := fun k hk => by
      unfold ofB
      rw [mapL_get _ (by omega), ofb_at h2 hk]
    have h0 := hg 0 (by omega)
    rw [Nat.add_zero] at h0
    simp only [bytesB, List.getElem_map, List.getElem_range]
    simp only [pby, Nat.add_zero, h0, hg 1 (by omega), hg 2 (by omega), hg 3 (by omega), hg 4 (by omega), hg 5 (by omega), hg 6 (by omega), hg 7 (by omega)]
    have := byte_bits (hb b[j] (List.getElem_mem h2))
    simp only [Nat.reduceSub, Nat.reducePow]
    omega
theorem ints_inj : ∀ {a b : List Nat}, ints a = ints b → a = b := fun {a b} h => by
  unfold ints at h
  exact (List.map_inj_right (fun x y h => Int.ofNat_inj.1 h)).1 h
/-- What opens of a message's bits is the message. -/
theorem open_msg {m : List Nat} (hm : ∀ x ∈ m, x < 256) : openB (bytesB (msgB m)) = some m := by
  unfold msgB
  rw [bytes_of (closeB_lt hm), open_close]
theorem hDec_whole (m : List Nat) (hn : m.length ≤ 64) {v : Nat} (hv : v < 4) : hDec (8 * (m.length + 4)) (addv (List.replicate (4 * (8 * (m.length + 4) + 6)) 0) v (verL m v) (8 * (m.length + 4) + 6)) = msgB m := by
  have hw := whole_told (msgB_len m) (msgB_bits m) (by omega) [v] (fun x hx => by rw [List.mem_singleton.1 hx]; exact hv) (by simp) (by simp)
  have hs : softs (8 * (m.length + 4) + 6) (whole (code (msgB m)) (8 * (m.length + 4) + 6) [v]) = addv (List.replicate (4 * (8 * (m.length + 4) + 6)) 0) v (verL m v) (8 * (m.length + 4) + 6) := rfl
  rw [hs] at hw
  have hin : ∀ x ∈ addv (List.replicate (4 * (8 * (m.length + 4) + 6)) 0) v (verL m v) (8 * (m.length + 4) + 6), -31 ≤ x ∧ x ≤ 31 := by
    rw [← hs]
    exact softs_in _ _ (by simp [whole]) (fun q hq => by simp [whole] at hq; rw [hq]; exact hv)
  have hl : (addv (List.replicate (4 * (8 * (m.length + 4) + 6)) 0) v (verL m v) (8 * (m.length + 4) + 6)).length = 4 * (8 * (m.length + 4) + 6) := by rw [← hs, softs_len]
  have hd := decOf_h hl (by omega) hin
  exact ints_inj (hd.1.symm.trans hw.1)
theorem hRes_whole (m : List Nat) (hm : ∀ x ∈ m, x < 256) (hn : m.length ≤ 64) {v : Nat} (hv : v < 4) (p : List Nat) : hRes (8 * (m.length + 4)) v p (addv (List.replicate (4 * (8 * (m.length + 4) + 6)) 0) v (verL m v) (8 * (m.length + 4) + 6)) = some m :=
  hRes_dec (by rw [hDec_whole m hn hv, open_msg hm])
set_option maxHeartbeats 3200000 in
set_option maxRecDepth 100000 in
theorem Version17_any (m : List Nat) (hm : ∀ x ∈ m, x < 256) (A : Option Addr) (n c : Nat) (w : World) (hn : m.length = n) (hC : (Kd.int .u8).C w A n (ints m)) (hl : n ≤ 64) (v : Nat) (hv : v < 4) :
    Calls Tryd.prog 13 #[.slice A n c, .int .i64 (v : Int)] w fun e w' => ∃ u, e = .returned u ∧ (Kd.int .u8).R 5 w' w.heap.size (fun k => w.heap.size ≤ k) u (ints (verL m v)) ∧ Below w.heap.size w w' := by
  have hcl := RClose_any m hm A n c w hn hC (by omega)
  have hlt := closeB_lt hm
  have hlen := closeB_len m
  have HC := Aside0.mk (And.intro hcl (And.intro hlt (And.intro hlen (And.intro hn (And.intro hl hv)))))
  clear hcl hlt hlen hn hC hl hm hv
  go_enter Tryd.func13, Tryd.ntmps13
  go_wp2_with fail
  refine HC.out.1.mono ?_
  rintro e w1 ⟨u1, rfl, hR1, hB1⟩
  obtain ⟨A1, c1, rfl, hc1, hC1⟩ := Kd.R_reads hR1
  rw [ints_len, HC.out.2.2.1, HC.out.2.2.2.1] at hc1 hC1 ⊢
  have hof := ROf_any (closeB m) HC.out.2.1 A1 (n + 4) c1 w1 (by rw [HC.out.2.2.1, HC.out.2.2.2.1]) hC1 (by have := HC.out.2.2.2.2.1; omega)
  have HO := Aside0.mk (And.intro hof hB1)
  clear hof hB1 hR1 hC1 hc1
  go_wp2_with fail
  refine HO.out.1.mono ?_
  rintro e w2 ⟨u2, rfl, hR2, hB2⟩
  obtain ⟨A2, c2, rfl, hc2, hC2⟩ := Kd.R_reads hR2
  have hl2 : (ints (ofB (closeB m))).length = (msgB m).length := ints_len _
  rw [hl2] at hc2 hC2 ⊢
  have hcd := Code_any (msgB m) (msgB_bits m) A2 c2 w2 hC2 hc2 (by have := HC.out.2.2.2.2.1; have := HC.out.2.2.2.1; rw [msgB_len]; omega)
  have HD := Aside0.mk (And.intro hcd (HO.out.2.trans (hB2.mono HO.out.2.size)))
  clear hcd hR2 hB2 hC2 hc2 hl2
  go_wp2_with fail
  refine HD.out.1.mono ?_
  rintro e w3 ⟨u3, rfl, hR3, hB3⟩
  obtain ⟨A3, c3, rfl, hc3, hC3⟩ := Kd.R_reads hR3
  have hl3 : (ints (code (msgB m))).length = 4 * (8 * (n + 4) + 6) := by rw [ints_len, code_len, msgB_len, HC.out.2.2.2.1]
  rw [hl3] at hc3 hC3 ⊢
  have hpk := Pick_any (code (msgB m)) v (8 * (n + 4) + 6) (4 * (8 * (n + 4) + 6)) HC.out.2.2.2.2.2 (by rw [← ints_len]; exact hl3) rfl (by have := HC.out.2.2.2.2.1; omega) A3 c3 w3 hC3 hc3
  have HK := Aside0.mk (And.intro hpk (HD.out.2.trans (hB3.mono HD.out.2.size)))
  clear hpk hR3 hB3 hC3 hc3 hl3
  go_wp2_with (go_at_call 30; refine HK.out.1.mono ?_; rintro e w4 ⟨u4, rfl, hR4, hB4⟩; have H4 := Aside0.mk (And.intro hR4 (HK.out.2.trans (hB4.mono HK.out.2.size))); clear hR4 hB4)
  go_ret
  refine ⟨_, rfl, ?_, H4.out.2⟩
  unfold verL
  rw [HC.out.2.2.2.1]
  exact Kd.R_mono (Kd.R_lower H4.out.1 HK.out.2.size) (fun k hk => Nat.le_trans HK.out.2.size hk)
end Go.Proofs.YtnejnnfjbhpigaaDoor.Vit

namespace Go.Proofs.YtnejnnfjbhpigaaDoor.Vit
open Go.RowKit Go.Proofs.YtnejnnfjbhpigaaDoorW.PrintWords Go.Proofs.YtnejnnfjbhpigaaDoorW.PrintLast Go.Proofs.YtnejnnfjbhpigaaDoorW.PrintMore Go.Proofs.YtnejnnfjbhpigaaDoor.Mem Go.Proofs.YtnejnnfjbhpigaaDoor.Crc
attribute [local go_sem] max2_int min2_int max_two min_two max_three min_three max_four min_four   -- for this text's walks alone
set_option linter.unusedVariables false
set_option linter.unusedSimpArgs false

open Go.Proofs.YtnejnnfjbhpigaaDoor.Chk
/-- A version of a message, some bits turned. -/
def bodL (m : List Nat) (at_ : List Int) (v : Nat) : List Nat := turnN (verL m v) (atl at_ (8 * (m.length + 4) + 6) (min 200 at_.length)) (8 * (m.length + 4) + 6)
theorem bodL_len (m : List Nat) (at_ : List Int) (v : Nat) : (bodL m at_ v).length = 8 * (m.length + 4) + 6 := by unfold bodL; rw [turnN_len]
theorem hturnN_bits {l : List Nat} (hl : Bits l) (at_ : List Int) (L : Nat) : Bits (turnN l at_ L) := fun b hb => by
  unfold turnN at hb
  obtain ⟨i, _, rfl⟩ := List.mem_map.1 hb
  exact turnAt_le (getD_bit hl i) _ _ _
theorem bodL_bits (m : List Nat) (at_ : List Int) (v : Nat) : Bits (bodL m at_ v) := hturnN_bits (verL_bits m v) _ _
/-- A row's element. -/
def came (o : Bool) (vv : Int) (Aa : Option Addr) (M ca : Nat) (Ar : Option Addr) (R cr : Nat) (nn : Int) : Array Value := #[.bool o, .int .i64 vv, .slice Aa M ca, .slice Ar R cr, .int .i64 nn]
set_option maxHeartbeats 3200000 in
set_option maxRecDepth 100000 in
theorem body_any (m : List Nat) (hm : ∀ x ∈ m, x < 256) (n : Nat) (hn : m.length = n) (hn4 : n ≤ 64) (v : Nat) (hv : v < 4) (o : Bool) (vv nn : Int) (at_ : List Int) (Aa Ar Al : Option Addr) (M ca R cr cl : Nat) (hM : at_.length = M) (hca : M ≤ ca) (hM2 : M ≤ 9223372036854775807) (w : World)
    (hA : (Kd.int .i64).C w Aa M at_) (hC : (Kd.int .u8).C w Al n (ints m)) (hcl : n ≤ cl) :
    Calls Tryd.prog 11 #[.agg (came o vv Aa M ca Ar R cr nn), .slice Al n cl, .int .i64 (v : Int)] w fun e w' => ∃ u, e = .returned u ∧ (Kd.int .u8).R 5 w' w.heap.size (fun _ => True) u (ints (bodL m at_ v)) ∧ Below w.heap.size w w' := by
  unfold came
  obtain ⟨W0, hW0⟩ : ∃ W0, w.alloc (.cells #[.bool o, .int .i64 vv, .slice Aa M ca, .slice Ar R cr, .int .i64 nn] 32) = W0 := ⟨_, rfl⟩
  have hB0 : Below w.heap.size w W0 := by rw [← hW0]; exact below_alloc (Below.refl _ _) _
  have hbox : W0.heap[w.heap.size]? = some (.cells #[.bool o, .int .i64 vv, .slice Aa M ca, .slice Ar R cr, .int .i64 nn] 32 (0, 0)) := by rw [← hW0]; exact heap_alloc_new w _
  have hver := Version17_any m hm Al n cl W0 hn (Kd.C_below hC hB0) hn4 v hv
  obtain ⟨L, hL⟩ : ∃ L, 8 * (n + 4) + 6 = L := ⟨_, rfl⟩
  have hkl : (verL m v).length = L := by rw [verL_len, hn, hL]
  have HH := Aside0.mk (And.intro hver (And.intro hB0 (And.intro hbox (And.intro hA (And.intro hkl (And.intro hL (And.intro hM hn)))))))
  clear hver hB0 hbox hA hC hkl hL hM hn
  have hL4 : L ≤ 4102 := by have := HH.out.2.2.2.2.2.1; omega
  go_enter Tryd.func11, Tryd.ntmps11
  go_upto_region 1 with fail
  clear hW0
  refine wp_region_lit ?_
  refine wpList_plain rfl (fun _ hK => ?_)
  go_simp
  refine hK _ _ ?_
  clear hK
  go_upto_region 2 with (go_at_call 13; refine HH.out.1.mono ?_; rintro e w2 ⟨u2, rfl, hR2, hB2⟩; have H2 := Aside0.mk (And.intro hR2 hB2); clear hR2 hB2)
  obtain ⟨A2, c2, e2, hc2, hC2⟩ := Kd.R_reads H2.out.1
  rw [ints_len, HH.out.2.2.2.2.1] at e2 hc2 hC2
  subst e2
  have hB02 : Below W0.heap.size W0 w2 := H2.out.2
  have hBw2 : Below w.heap.size w w2 := HH.out.2.1.trans (hB02.mono HH.out.2.1.size)
  have hbox2 := below_cell_blk hB02 HH.out.2.2.1
  have hwk : IntKind.u64.wrap ((L : Nat) : Int) = (L : Int) := by rw [IntKind.wrap_u64]; omega
  have hL0 : ((L : Nat) : Int) ≠ 0 := by have := HH.out.2.2.2.2.2.1; omega
  have H3 := Aside0.mk (And.intro hBw2 (And.intro hbox2 (And.intro hC2 (And.intro hc2 (Kd.C_below HH.out.2.2.2.1 hBw2)))))
  clear hC2 hc2 hB02 hBw2 hbox2
  go_wp2_with fail
  go_loopw [8, 9] (fun o i wr => ∃ k : Nat, i = .int .i64 k ∧ k ≤ 200 ∧ k ≤ M ∧ (Kd.int .i64).R 3 wr w2.heap.size (fun _ => True) o (atl at_ L k) ∧ Below w2.heap.size w2 wr) (fun _ i _ => 200 - (intOf i).toNat)
  case atStart => exact ⟨0, rfl, by omega, by omega, Kd.R_nil _ _ _ _ _, Below.refl _ _⟩
  case round =>
    obtain ⟨k, rfl, hk30, hkM, hR, hB⟩ := hrel
    have HR := Aside0.mk (And.intro hR hB)
    have hbx := below_cell_blk hB H3.out.2.1
    have M2 : wr.cell? ⟨w.heap.size, 2, none⟩ = some (.slice Aa M ca) := blk_cell hbx 2
    clear hR hbx
    by_cases h1 : k < M
    · have h1' : (k : Int) < (M : Int) := by omega
      by_cases h2 : k < 200
      · have h2' : (k : Int) < 200 := by omega
        have d1 : decide ((k : Int) < 200) = true := decide_eq_true h2'
        have d2 : decide (k < 200) = true := decide_eq_true h2
        obtain ⟨ad, hA, hcell⟩ := Kd.at_int (Kd.C_below H3.out.2.2.2.2 hB) (k : Int) (by omega) h1'
        cases hA
        have hkl : k < at_.length := by have := HH.out.2.2.2.2.2.2.1; omega
        rw [rd_at hkl, Int.toNat_natCast] at hcell
        have hnx := atl_next at_ L k hkl
        obtain ⟨x, hx⟩ : ∃ x, at_[k] = x := ⟨_, rfl⟩
        rw [hx] at hcell hnx
        obtain ⟨y, hy⟩ : ∃ y, wrap64 ((IntKind.u64.wrap x).tmod (L : Int)) = y := ⟨_, rfl⟩
        have hnx2 := hnx
        rw [hy] at hnx2
        have HN := Aside0.mk (And.intro hnx2 (atl_len at_ L k (by omega)))
        clear hnx hnx2 hx hB
        go_wp2_with (first | ((with_reducible refine gate_builtin (b := .append) (xs := #[.tmp 24, .tmp 36]) rfl ?_); at_builtin; refine Kd.R_append (Kd.int .i64) (w0 := w2) w2.heap.size rfl (.tmp 24) (.tmp 36) 30 3 (.int .i64 0) 8 rfl Tryd.underlying30 info3 rfl (by decide) (by omega) u8 (atl at_ L k) y [.int .i64 y] (fun _ => True) (fun _ => False) rfl rfl ?aP (fun _ hk => hk.elim) ?aF ?aO ?aB ?aS ?aL ?_; (case aP => exact rfl); (case aB => exact HR.out.2); (case aF => exact (fun _ _ => trivial)); (case aO => exact HR.out.1); (case aS => exact below_size HR.out.2); (case aL => rw [HN.out.2]; omega); intro v1 w7 ho hb hg hat; have HK := Aside0.mk (And.intro ho hb); clear ho hb hg hat))
        refine ⟨⟨k + 1, by go_num, by omega, by omega, ?_, HK.out.2⟩, by simp only [intOf]; omega⟩
        rw [HN.out.1]
        exact HK.out.1
      · have h2' : ¬ (k : Int) < 200 := by omega
        obtain rfl : k = 200 := by omega
        obtain ⟨A8, c8, e8, hc8, hC8⟩ := Kd.R_reads HR.out.1
        rw [atl_len at_ L 200 (by have := HH.out.2.2.2.2.2.2.1; omega)] at e8 hc8 hC8
        subst e8
        have ht := Turn_any (verL m v) (verL_bits m v) (atl at_ L 200) A2 A8 c2 c8 L 200 wr HH.out.2.2.2.2.1 (atl_len at_ L 200 (by have := HH.out.2.2.2.2.2.2.1; omega)) (by omega) (by omega) (Kd.C_below H3.out.2.2.1 HR.out.2) hC8 H3.out.2.2.2.1 hc8
        have hpe : turnN (verL m v) (atl at_ L 200) L = bodL m at_ v := by
          unfold bodL
          rw [HH.out.2.2.2.2.2.2.2, HH.out.2.2.2.2.2.1, show min 200 at_.length = 200 by have := HH.out.2.2.2.2.2.2.1; omega]
        rw [hpe] at ht
        have HT := Aside0.mk ht
        clear ht hpe hc8 hC8 hB
        go_wp2_with (go_at_call 29; refine HT.out.mono ?_; rintro e w9 ⟨u9, rfl, hR9, hB9⟩; have H9 := Aside0.mk (And.intro hR9 hB9); clear hR9 hB9)
        go_ret
        have hbw := H3.out.1.trans (HR.out.2.mono H3.out.1.size)
        exact ⟨u9, rfl, Kd.R_lower H9.out.1 hbw.size, hbw.trans (H9.out.2.mono hbw.size)⟩
    · have h1' : ¬ (k : Int) < (M : Int) := by omega
      obtain rfl : k = M := by omega
      obtain ⟨A8, c8, e8, hc8, hC8⟩ := Kd.R_reads HR.out.1
      rw [atl_len at_ L k (by have := HH.out.2.2.2.2.2.2.1; omega)] at e8 hc8 hC8
      subst e8
      have ht := Turn_any (verL m v) (verL_bits m v) (atl at_ L k) A2 A8 c2 c8 L k wr HH.out.2.2.2.2.1 (atl_len at_ L k (by have := HH.out.2.2.2.2.2.2.1; omega)) (by omega) (by omega) (Kd.C_below H3.out.2.2.1 HR.out.2) hC8 H3.out.2.2.2.1 hc8
      have hpe : turnN (verL m v) (atl at_ L k) L = bodL m at_ v := by
        unfold bodL
        rw [HH.out.2.2.2.2.2.2.2, HH.out.2.2.2.2.2.1, show min 200 at_.length = k by have := HH.out.2.2.2.2.2.2.1; omega]
      rw [hpe] at ht
      have HT := Aside0.mk ht
      clear ht hpe hc8 hC8 hB
      go_wp2_with (go_at_call 29; refine HT.out.mono ?_; rintro e w9 ⟨u9, rfl, hR9, hB9⟩; have H9 := Aside0.mk (And.intro hR9 hB9); clear hR9 hB9)
      go_ret
      have hbw := H3.out.1.trans (HR.out.2.mono H3.out.1.size)
      exact ⟨u9, rfl, Kd.R_lower H9.out.1 hbw.size, hbw.trans (H9.out.2.mono hbw.size)⟩
end Go.Proofs.YtnejnnfjbhpigaaDoor.Vit

namespace Go.Proofs.YtnejnnfjbhpigaaDoor.Vit
open Go.RowKit Go.Proofs.YtnejnnfjbhpigaaDoorW.PrintWords Go.Proofs.YtnejnnfjbhpigaaDoorW.PrintLast Go.Proofs.YtnejnnfjbhpigaaDoorW.PrintMore Go.Proofs.YtnejnnfjbhpigaaDoor.Mem Go.Proofs.YtnejnnfjbhpigaaDoor.Crc
attribute [local go_sem] max2_int min2_int max_two min_two max_three min_three max_four min_four   -- for this text's walks alone
set_option linter.unusedVariables false
set_option linter.unusedSimpArgs false

open Go.Proofs.YtnejnnfjbhpigaaDoor.Chk
theorem hi_row (W : World) : (Kd.int .u8).C (W.alloc (.cells #[.int .u8 104, .int .u8 105] 5 (2, 3))) (some ⟨W.heap.size, 0, none⟩) 2 (ints [104, 105]) :=
  Kd.C_of_reads (d := 0) ⟨rfl, by decide, fun _ => ⟨_, rfl, fun j hj => by
    rw [addO, Nat.zero_add, World.cell?_alloc_mark]
    match j, hj with
    | 0, _ => rfl
    | 1, _ => rfl⟩⟩
theorem hi_str : ((strOfNums (ints [104, 105])).toList == [104, 105]) = true := by kernel_rfl
theorem hi_lt : ∀ x ∈ [104, 105], x < 256 := fun x hx => by
  rcases List.mem_cons.1 hx with rfl | hx
  · omega
  · rw [List.mem_singleton.1 hx]
    omega
theorem PS3_new {W W1 w : World} {pb b sb B : Nat} (h : Chg (PS3 pb b sb) W W1) (hB : Below B w W) (h0 : B ≤ w.heap.size) (h1 : B ≤ pb ∧ B ≤ b ∧ B ≤ sb) : Below B w W1 :=
  hB.trans (h.below (Nat.le_trans h0 hB.size) (fun i hi => by
    rcases hi with h | h | h <;> omega))
set_option maxHeartbeats 3200000 in
set_option maxRecDepth 100000 in
theorem reads_any (w : World) (ht : Taps w) : Calls Tryd.prog 9 #[] w fun e w' => e = .returned (.bool true) ∧ Below w.heap.size w w' := by
  have hnew := HNew_any 2 (by omega) w
  have hlong := fun W => HNew_long 65 (.inr (by omega)) W
  have HC := Aside0.mk (And.intro hnew (And.intro hlong ht))
  clear hnew hlong ht
  go_enter Tryd.func9, Tryd.ntmps9
  go_wp2_with fail
  refine HC.out.1.mono ?_
  rintro e w1 ⟨rfl, hI1, hB1⟩
  have H1 := Aside0.mk (And.intro hI1 hB1)
  clear hI1 hB1
  have kc := fun (W : World) (C : Array Value) (n c : Nat) => Lib.run_convert_bytes_const (P := Tryd.prog) W 22 5 C n c Tryd.underlying22 Tryd.underlying5
  go_wp2_with fail
  have hBa : Below w1.heap.size w1 (w1.alloc (.cells #[.int .u8 104, .int .u8 105] 5 (2, 3))) := below_alloc (Below.refl _ _) _
  refine (Version17_any [104, 105] hi_lt _ 2 2 _ rfl (hi_row w1) (by omega) 2 (by omega)).mono ?_
  rintro e w2 ⟨u2, rfl, hR2, hB2⟩
  have hB12 : Below w1.heap.size w1 w2 := hBa.trans (hB2.mono hBa.size)
  obtain ⟨A2, c2, rfl, hc2, hC2⟩ := Kd.R_reads hR2
  have hvl : (ints (verL [104, 105] 2)).length = 54 := by rw [ints_len, verL_len]; rfl
  rw [hvl] at hc2 hC2 ⊢
  obtain ⟨P2, hP2⟩ : ∃ P2, verL [104, 105] 2 = P2 := ⟨_, rfl⟩
  have hpb : Bits P2 := by rw [← hP2]; exact verL_bits _ _
  have hpl : P2.length = 54 := by rw [← hP2, verL_len]; rfl
  rw [hP2] at hR2 hC2
  have hT2 : Taps w2 := HC.out.2.2.below (H1.out.2.trans (hB12.mono H1.out.2.size))
  have hlt := C_lt hC2 (by omega)
  have hge : ∀ ad, A2 = some ad → w1.heap.size ≤ ad.block := fun ad ha => Nat.le_trans hBa.size (hR2.1 ad.block (by rw [ha]; rfl))
  have h3 : w.heap.size + 2 < w1.heap.size := blk_lt H1.out.1.buf.row
  have hw0 := HC.out.2.2.2.2.2.2
  have hof := Offer_same w.heap.size (w.heap.size + 1) (w.heap.size + 2) 2 0 _ _ 2 (by omega) P2 hpb hpl A2 54 c2 rfl hc2 w2 (H1.out.1.below hB12) (by omega) (fun x hx => by
    obtain ⟨_, rfl⟩ := List.mem_replicate.1 hx
    omega) hC2 (fun ad ha hp => by
      have := hge ad ha
      rcases hp with h | h | h <;> omega) hT2 (fun hp => by
      rcases hp with h | h | h <;> omega)
  have hres : hRes (8 * (2 + 4)) 2 P2 (addv (List.replicate (4 * (8 * (2 + 4) + 6)) 0) 2 P2 (8 * (2 + 4) + 6)) = some [104, 105] := by
    rw [← hP2]
    exact hRes_whole [104, 105] hi_lt (by decide) (by omega) _
  unfold OffPost at hof
  rw [hres] at hof
  rw [show hE (some [104, 105]) = 0 from rfl] at hof
  have HO := Aside0.mk (And.intro hof (H1.out.2.trans (hB12.mono H1.out.2.size)))
  clear hof hres hw0 h3 hge hlt hT2 hpl hpb hP2 hC2 hc2 hR2 hvl hB12 hB2 hBa
  go_wp2_with fail
  refine HO.out.1.mono ?_
  rintro e w3 ⟨u3, b3, sb3, rfl, hR3, hI3, hs3, hC3⟩
  obtain ⟨A3, c3, rfl, hc3, hC3'⟩ := Kd.R_reads hR3
  have hl3 : (ints ((some [104, 105]).getD [])).length = 2 := rfl
  rw [hl3] at hC3' hc3 ⊢
  have hw1 : w.heap.size ≤ w2.heap.size := HO.out.2.size
  have hB3 : Below w.heap.size w w3 := PS3_new hC3 HO.out.2 (Nat.le_refl _) (by omega)
  have hn3 := fun W (hB : Below w3.heap.size w3 W) => Done_any W _ _ _ _ _ _ _ _ (hI3.below hB)
  have hk3 := fun W (hB : Below w3.heap.size w3 W) => Kd.C_string (src := 22) Tryd.underlying22 Tryd.underlying5 Tryd.underlying9 (c := c3) (Kd.C_below hC3' hB)
  have HK := Aside0.mk (And.intro hn3 (And.intro hk3 hB3))
  clear hR3 hI3 hs3 hC3 hn3 hk3 hB3 hC3' hc3 hl3 hw1
  go_wp2_with fail
  refine (HC.out.2.1 _).mono ?_
  rintro e w4 ⟨rfl, hB4⟩
  have k4 := HK.out.2.1 w4 hB4
  have hT2 := hi_str
  rw [show (some [104, 105]).getD [] = [104, 105] from rfl] at k4
  obtain ⟨T, hT⟩ : ∃ T, strOfNums (ints [104, 105]) = T := ⟨_, rfl⟩
  rw [hT] at hT2 k4
  clear hT
  have H4 := Aside0.mk hB4
  clear hB4
  go_wp2_with (go_at_call 12; refine (HK.out.1 _ H4.out).mono ?_; rintro e w5 ⟨rfl, rfl⟩)
  go_ret
  exact ⟨rfl, HK.out.2.2.trans (H4.out.mono HK.out.2.2.size)⟩
end Go.Proofs.YtnejnnfjbhpigaaDoor.Vit

namespace Go.Proofs.YtnejnnfjbhpigaaDoor.Vit
open Go.RowKit Go.Proofs.YtnejnnfjbhpigaaDoorW.PrintWords Go.Proofs.YtnejnnfjbhpigaaDoorW.PrintLast Go.Proofs.YtnejnnfjbhpigaaDoorW.PrintMore Go.Proofs.YtnejnnfjbhpigaaDoor.Mem Go.Proofs.YtnejnnfjbhpigaaDoor.Crc
attribute [local go_sem] max2_int min2_int max_two min_two max_three min_three max_four min_four   -- for this text's walks alone
set_option linter.unusedVariables false
set_option linter.unusedSimpArgs false

open Go.Proofs.YtnejnnfjbhpigaaDoor.Chk
def offX (n N came : Nat) (xs : List Int) : List Int := if n = N ∧ came < 16 then xs else List.replicate (4 * (8 * (n + 4) + 6)) 0
def offS (n N came : Nat) (cs : Nat → Nat) : Nat → Nat := if n = N ∧ came < 16 then cs else fun _ => 0
def offN (n N came : Nat) : Nat := if n = N ∧ came < 16 then came else 0
theorem offX_in {n N came : Nat} {xs : List Int} (h : ∀ x ∈ xs, -31 ≤ x ∧ x ≤ 31) : ∀ x ∈ offX n N came xs, -31 ≤ x ∧ x ≤ 31 := fun x hx => by
  unfold offX at hx
  split at hx
  · exact h x hx
  · obtain ⟨_, rfl⟩ := List.mem_replicate.1 hx
    omega
/-- A row of bytes of the call's own is none of a process's blocks. -/
theorem row_apart {W : World} {pb b sb N : Nat} {xs : List Int} {cs : Nat → Nat} {came : Nat} {done : Bool} (hI : IsP W pb b sb N xs cs came done) {base : Nat} {ok : Nat → Prop} {A : Option Addr} {L c : Nat} {p : List Int} (hR : (Kd.int .u8).R 5 W base ok (.slice A L c) p) : ∀ ad, A = some ad → ¬ PS3 pb b sb ad.block := fun ad ha h => by
  have ho : (Value.slice A L c).ownBlock = some ad.block := by rw [ha]; rfl
  have hty : ∀ t, 5 ≠ t → ∀ q, q ∈ 5 :: (Kd.int .u8).E → q ≠ t := fun t ht q hq => by
    rcases List.mem_cons.1 hq with rfl | h
    · exact ht
    · exact absurd h List.not_mem_nil
  rcases h with h | h | h
  · exact ((Kd.R_types hR hI.blk (hty _ (by decide))).1 _ ho).2 h
  · exact ((Kd.R_types hR hI.buf.blk (hty _ (by decide))).1 _ ho).2 h
  · exact ((Kd.R_types hR hI.buf.row (hty _ (by decide))).1 _ ho).2 h
theorem Offer_all (pb b sb n N came : Nat) (xs : List Int) (cs : Nat → Nat) (v : Nat) (hv : v < 4) (p : List Nat) (hp : Bits p) (L : Nat) (hL : 8 * (n + 4) + 6 = L) (hpl : p.length = L) (A : Option Addr) (c : Nat) (hLc : L ≤ c) (W : World)
    (hI : IsP W pb b sb N xs cs came false) (hle : n ≤ 64) (hin : ∀ x ∈ xs, -31 ≤ x ∧ x ≤ 31) (hC : (Kd.int .u8).C W A L (ints p)) (hA : ∀ ad, A = some ad → ¬ PS3 pb b sb ad.block) (hT : Taps W) (h0 : ¬ PS3 pb b sb 0) :
    Calls Tryd.prog 10 #[.pointer (some ⟨pb, 0, none⟩), .int .i64 (n : Int), .int .i64 (v : Int), .slice A L c] W (OffPost W pb b sb n v p (offX n N came xs) (offS n N came cs) (offN n N came)) := by
  by_cases h : n = N ∧ came < 16
  · obtain ⟨rfl, hc⟩ := h
    unfold offX offS offN
    rw [if_pos ⟨rfl, hc⟩, if_pos ⟨rfl, hc⟩, if_pos ⟨rfl, hc⟩]
    exact Offer_same pb b sb n came xs cs v hv p hp (by omega) A L c hL hLc W hI hc hin hC hA hT h0
  · unfold offX offS offN
    rw [if_neg h, if_neg h, if_neg h]
    by_cases hn : n = N
    · exact Offer_full pb b sb n N came xs cs v hv p hp (by omega) A L c hL hLc W hI ⟨hn, by have := hI.few; omega⟩ hle hC hA hT h0 _ _ _ rfl rfl rfl
    · exact Offer_other pb b sb n N came xs cs v hv p hp (by omega) A L c hL hLc W hI hn hle hC hA hT h0 _ _ _ rfl rfl rfl
/-- A process of the call's own, in its row of versions. -/
structure Proc (base : Nat) (W : World) (pb b sb N : Nat) (xs : List Int) (cs : Nat → Nat) (came : Nat) (done : Bool) : Prop where
  is : IsP W pb b sb N xs cs came done
  in_ : ∀ x ∈ xs, -31 ≤ x ∧ x ≤ 31
  lo : base ≤ pb ∧ base ≤ b ∧ base ≤ sb
  taps : Taps W
  pos : 0 < base
theorem Proc.zero {base : Nat} {W : World} {pb b sb N : Nat} {xs : List Int} {cs : Nat → Nat} {came : Nat} {done : Bool} (h : Proc base W pb b sb N xs cs came done) : ¬ PS3 pb b sb 0 := fun hp => by
  have h1 := h.lo
  have h2 := h.pos
  rcases hp with h | h | h <;> omega
theorem Proc.next {base : Nat} {W w' : World} {pb b sb n N v : Nat} {xs : List Int} {cs : Nat → Nat} {came : Nat} {p : List Nat} (h : Proc base W pb b sb N xs cs came false) {u : Value} {e : Ending} {b' sb' : Nat} {r : Bool}
    (hI : IsP w' pb b' sb' n (addv (offX n N came xs) v p (8 * (n + 4) + 6)) (bump (offS n N came cs) v) (offN n N came + 1) r) (hs : (b' = b ∧ sb' = sb) ∨ (W.heap.size ≤ b' ∧ W.heap.size ≤ sb')) (hC : Chg (PS3 pb b sb) W w') :
    Proc base w' pb b' sb' n (addv (offX n N came xs) v p (8 * (n + 4) + 6)) (bump (offS n N came cs) v) (offN n N came + 1) r := by
  have h1 := h.lo
  have h2 := blk_lt h.is.blk
  refine ⟨hI, addv_in _ _ _ (offX_in h.in_) _, ?_, h.taps.chg hC h.zero, h.pos⟩
  rcases hs with ⟨rfl, rfl⟩ | hs
  · exact h1
  · omega
theorem Proc.below {base : Nat} {W w' : World} {pb b sb N : Nat} {xs : List Int} {cs : Nat → Nat} {came : Nat} {done : Bool} (h : Proc base W pb b sb N xs cs came done) (hB : Below W.heap.size W w') : Proc base w' pb b sb N xs cs came done := ⟨h.is.below hB, h.in_, h.lo, h.taps.below hB, h.pos⟩
theorem Proc.new {W w' : World} {N : Nat} (hT : Taps W) (hI : IsP w' W.heap.size (W.heap.size + 1) (W.heap.size + 2) N (List.replicate (4 * (8 * (N + 4) + 6)) 0) (fun _ => 0) 0 false) (hB : Below W.heap.size W w') :
    Proc W.heap.size w' W.heap.size (W.heap.size + 1) (W.heap.size + 2) N (List.replicate (4 * (8 * (N + 4) + 6)) 0) (fun _ => 0) 0 false :=
  ⟨hI, fun x hx => by
    obtain ⟨_, rfl⟩ := List.mem_replicate.1 hx
    omega, by omega, hT.below hB, hT.2.2.2.2⟩
theorem Proc.keeps {base : Nat} {W w' : World} {pb b sb N : Nat} {xs : List Int} {cs : Nat → Nat} {came : Nat} {done : Bool} (h : Proc base W pb b sb N xs cs came done) {w : World} {B : Nat} (hb : B ≤ base) (hC : Chg (PS3 pb b sb) W w') (hB : Below B w W) (hw : B ≤ w.heap.size) : Below B w w' := by
  have h1 := h.lo
  exact PS3_new hC hB hw (by omega)
end Go.Proofs.YtnejnnfjbhpigaaDoor.Vit

namespace Go.Proofs.YtnejnnfjbhpigaaDoor.Vit
open Go.RowKit Go.Proofs.YtnejnnfjbhpigaaDoorW.PrintWords Go.Proofs.YtnejnnfjbhpigaaDoorW.PrintLast Go.Proofs.YtnejnnfjbhpigaaDoorW.PrintMore Go.Proofs.YtnejnnfjbhpigaaDoor.Mem Go.Proofs.YtnejnnfjbhpigaaDoor.Crc
attribute [local go_sem] max2_int min2_int max_two min_two max_three min_three max_four min_four   -- for this text's walks alone
set_option linter.unusedVariables false
set_option linter.unusedSimpArgs false

open Go.Proofs.YtnejnnfjbhpigaaDoor.Chk
theorem openB_len {b m : List Nat} (h : openB b = some m) : m.length + 4 = b.length := by
  unfold openB at h
  by_cases h1 : b.length < 4
  · rw [if_pos h1] at h
    cases h
  · rw [if_neg h1] at h
    by_cases h2 : sumL (Crc.sum (b.take (b.length - 4))) 4 = b.drop (b.length - 4)
    · rw [if_pos h2] at h
      injection h with h
      rw [← h, List.length_take]
      omega
    · rw [if_neg h2] at h
      cases h
theorem hRes_len {n v : Nat} {p : List Nat} {xs : List Int} {m : List Nat} (h : hRes (8 * (n + 4)) v p xs = some m) : m.length = n := by
  cases h1 : openB (bytesB (hDec (8 * (n + 4)) xs)) with
  | some m1 =>
    rw [hRes_dec h1] at h
    injection h with h
    have := openB_len h1
    rw [bytesB_len, hDec_len, h] at this
    omega
  | none =>
    rw [hRes_alone h1] at h
    by_cases h2 : aOk p v (8 * (n + 4)) (8 * (n + 4) + 6) = true
    · rw [if_pos h2] at h
      have := openB_len h
      rw [bytesB_len, mapL_len] at this
      omega
    · rw [if_neg h2] at h
      cases h
end Go.Proofs.YtnejnnfjbhpigaaDoor.Vit

namespace Go.Proofs.YtnejnnfjbhpigaaDoor.Vit
open Go.RowKit Go.Proofs.YtnejnnfjbhpigaaDoorW.PrintWords Go.Proofs.YtnejnnfjbhpigaaDoorW.PrintLast Go.Proofs.YtnejnnfjbhpigaaDoorW.PrintMore Go.Proofs.YtnejnnfjbhpigaaDoor.Mem Go.Proofs.YtnejnnfjbhpigaaDoor.Crc
attribute [local go_sem] max2_int min2_int max_two min_two max_three min_three max_four min_four   -- for this text's walks alone
set_option linter.unusedVariables false
set_option linter.unusedSimpArgs false

open Go.Proofs.YtnejnnfjbhpigaaDoor.Chk
theorem obh_tab : (List.range 64).all (fun s => (List.range 4).all fun k => ob (s + 64) k == (ob s k + 1) % 2 && decide (ob s k ≤ 1)) = true := by decide +kernel
theorem ob_high {s k : Nat} (hs : s < 64) (hk : k < 4) : ob (s + 64) k = (ob s k + 1) % 2 ∧ ob s k ≤ 1 := by
  have h1 := List.all_eq_true.1 obh_tab s (List.mem_range.2 hs)
  have h2 := List.all_eq_true.1 h1 k (List.mem_range.2 hk)
  simpa using h2
/-- The coder's state behind so many bits. -/
def stA : Nat → List Nat → Nat → Nat
  | s, _, 0 => s
  | s, [], _ + 1 => s
  | s, b :: l, t + 1 => stA ((s + 64 * b) / 2) l t
theorem stA_next : ∀ (l : List Nat) (s t : Nat), t < l.length → stA s l (t + 1) = (stA s l t + 64 * l.getD t 0) / 2
  | b :: l, s, 0, _ => by simp [stA]
  | b :: l, s, t + 1, h => by
    have := stA_next l ((s + 64 * b) / 2) t (by simp at h; omega)
    simpa [stA] using this
theorem pcode_get : ∀ (l : List Nat) (s t k : Nat), t < l.length → k < 4 → (pcode s l).getD (4 * t + k) 0 = ob (stA s l t + 64 * l.getD t 0) k
  | b :: l, s, 0, k, _, hk => by
    match k, hk with
    | 0, _ => simp [pcode, stA]
    | 1, _ => simp [pcode, stA]
    | 2, _ => simp [pcode, stA]
    | 3, _ => simp [pcode, stA]
  | b :: l, s, t + 1, k, h, hk => by
    have ih := pcode_get l ((s + 64 * b) / 2) t k (by simp at h; omega) hk
    rw [show 4 * (t + 1) + k = (4 * t + k) + 1 + 1 + 1 + 1 by omega]
    simpa [pcode, stA] using ih
theorem alone_bit {l : List Nat} (hb : Bits l) {p : List Nat} {v : Nat} (hv : v < 4) (hp : ∀ t, t < l.length → p.getD t 0 = (pcode 0 l).getD (4 * t + strm v t) 0) : ∀ t, t ≤ l.length → aS p v t = stA 0 l t ∧ (t < l.length → aB p v t = l.getD t 0) := by
  have hone : ∀ t, aS p v t = stA 0 l t → t < l.length → aB p v t = l.getD t 0 := fun t he ht => by
    have hs := aS_lt p v t
    have hk := strm_lt v t
    have hf := ob_high hs hk
    have hg := pcode_get l 0 t (strm v t) ht hk
    have hl := getD_bit hb t
    unfold aB aT
    rw [hp t ht, hg, ← he]
    rcases Nat.le_one_iff_eq_zero_or_eq_one.1 hl with h | h
    · rw [h, Nat.mul_zero, Nat.add_zero]
      omega
    · rw [h, Nat.mul_one, hf.1]
      omega
  intro t
  induction t with
  | zero => exact fun _ => ⟨by simp [aS, stA], hone 0 (by simp [aS, stA])⟩
  | succ t ih =>
    intro h
    have h1 := ih (by omega)
    have h2 : aS p v (t + 1) = stA 0 l (t + 1) := by rw [aS_next, stA_next _ _ _ (by omega), h1.1, h1.2 (by omega)]
    exact ⟨h2, hone _ h2⟩
theorem alone_list (m : List Nat) {v : Nat} (hv : v < 4) : mapL (aB (verL m v) v) (8 * (m.length + 4) + 6) = msgB m ++ zs 6 := by
  have hl : (msgB m ++ zs 6).length = 8 * (m.length + 4) + 6 := by rw [List.length_append, zs_len, msgB_len]
  have hb : Bits (msgB m ++ zs 6) := (msgB_bits m).append (zs_bits 6)
  have hp : ∀ t, t < (msgB m ++ zs 6).length → (verL m v).getD t 0 = (pcode 0 (msgB m ++ zs 6)).getD (4 * t + strm v t) 0 := fun t ht => by
    have h : verL m v = mapL (fun t => (code (msgB m)).getD (place v t) 0) (8 * (m.length + 4) + 6) := rfl
    rw [h, mapL_get _ (by omega)]
    rfl
  apply List.ext_getElem
  · rw [mapL_len, hl]
  · intro t h1 h2
    have h3 := (alone_bit hb hv hp t (by omega)).2 h2
    rw [List.getD_eq_getElem?_getD, List.getElem?_eq_getElem h2] at h3
    have h4 := mapL_get (aB (verL m v) v) (N := 8 * (m.length + 4) + 6) (j := t) (by omega)
    rw [List.getD_eq_getElem?_getD, List.getElem?_eq_getElem h1] at h4
    simp only [Option.getD_some] at h3 h4
    rw [h4, h3]
theorem alone_ok (m : List Nat) {v : Nat} (hv : v < 4) : aOk (verL m v) v (8 * (m.length + 4)) (8 * (m.length + 4) + 6) = true ∧ mapL (aB (verL m v) v) (8 * (m.length + 4)) = msgB m := by
  have h := alone_list m hv
  constructor
  · unfold aOk
    rw [h, List.drop_left' (msgB_len m)]
    decide
  · have h2 : mapL (aB (verL m v) v) (8 * (m.length + 4)) = (mapL (aB (verL m v) v) (8 * (m.length + 4) + 6)).take (8 * (m.length + 4)) := by
      unfold mapL
      rw [← List.map_take, List.take_range]
      congr 2
      omega
    rw [h2, h, List.take_left' (msgB_len m)]
/-- A version of which nothing is turned is read, whatever came ahead. -/
theorem hRes_ver (m : List Nat) (hm : ∀ x ∈ m, x < 256) {v : Nat} (hv : v < 4) (xs : List Int) : ∃ r, hRes (8 * (m.length + 4)) v (verL m v) xs = some r ∧ r.length = m.length := by
  have h : ∃ r, hRes (8 * (m.length + 4)) v (verL m v) xs = some r := by
    cases h1 : openB (bytesB (hDec (8 * (m.length + 4)) xs)) with
    | some m1 => exact ⟨m1, hRes_dec h1⟩
    | none => exact ⟨m, by rw [hRes_alone h1, if_pos (alone_ok m hv).1, (alone_ok m hv).2, open_msg hm]⟩
  obtain ⟨r, hr⟩ := h
  exact ⟨r, hr, hRes_len hr⟩
end Go.Proofs.YtnejnnfjbhpigaaDoor.Vit

namespace Go.Proofs.YtnejnnfjbhpigaaDoor.Vit
open Go.RowKit Go.Proofs.YtnejnnfjbhpigaaDoorW.PrintWords Go.Proofs.YtnejnnfjbhpigaaDoorW.PrintLast Go.Proofs.YtnejnnfjbhpigaaDoorW.PrintMore Go.Proofs.YtnejnnfjbhpigaaDoor.Mem Go.Proofs.YtnejnnfjbhpigaaDoor.Crc
attribute [local go_sem] max2_int min2_int max_two min_two max_three min_three max_four min_four   -- for this text's walks alone
set_option linter.unusedVariables false
set_option linter.unusedSimpArgs false

open Go.Proofs.YtnejnnfjbhpigaaDoor.Chk
abbrev HRow := Bool × Int × List Int × List Int × Int
abbrev HC5 : Kd HRow := Kd.pair Kd.bool (Kd.pair (Kd.int .i64) (Kd.pair (Kd.slice 3 (Kd.int .i64)) (Kd.pair (Kd.slice 5 (Kd.int .u8)) (Kd.int .i64))))
/-- Element i of what came. -/
theorem hcame_at {w : World} {A : Option Addr} {n : Nat} {row : List HRow} (h : HC5.C w A n row) (i : Nat) (hi : i < n) :
    ∃ (ad : Addr) (r : Bool) (vv : Int) (at_ raw : List Int) (nn : Int) (Aa : Option Addr) (ca : Nat) (Ar : Option Addr) (cr : Nat), A = some ad ∧ row.getD i (false, 0, [], [], 0) = (r, vv, at_, raw, nn) ∧ at_.length ≤ ca ∧ (Kd.int .i64).C w Aa at_.length at_ ∧ raw.length ≤ cr ∧ (Kd.int .u8).C w Ar raw.length raw ∧
      w.cell? (ad.add (i * 5)) = some (.bool r) ∧ w.cell? ⟨(ad.add (i * 5)).block, (ad.add (i * 5)).off + 1, none⟩ = some (.int .i64 vv) ∧
      w.cell? ⟨(ad.add (i * 5)).block, (ad.add (i * 5)).off + 2, none⟩ = some (.slice Aa at_.length ca) ∧ w.cell? ⟨(ad.add (i * 5)).block, (ad.add (i * 5)).off + 3, none⟩ = some (.slice Ar raw.length cr) ∧ w.cell? ⟨(ad.add (i * 5)).block, (ad.add (i * 5)).off + 4, none⟩ = some (.int .i64 nn) := by
  obtain ⟨ad, c, hA, hcl, hK, hcell⟩ := Kd.C_get h (false, 0, [], [], 0) (i : Int) (by omega) (by omega)
  rw [Int.toNat_natCast] at hK hcell
  obtain ⟨⟨r, vv, at_, raw, nn⟩, hrow⟩ : ∃ q, row.getD i (false, 0, [], [], 0) = q := ⟨_, rfl⟩
  rw [hrow] at hK
  obtain ⟨c0, c1, rfl, h0, c2, c3, rfl, h2, c4, c5, rfl, h4, c6, c7, rfl, h6, h7⟩ := hK
  obtain ⟨Aa, ca, rfl, hle, hC⟩ := h4
  obtain ⟨Ar, cr, rfl, hle2, hC2⟩ := h6
  have h0' : c0 = [.bool r] := h0
  have h2' : c2 = [.int .i64 vv] := h2
  have h7' : c7 = [.int .i64 nn] := h7
  subst h0' h2' h7'
  have hsz : HC5.sz = 5 := rfl
  rw [hsz] at hcell
  have e0 := hcell 0 _ rfl
  have e1 := hcell 1 _ rfl
  have e2 := hcell 2 _ rfl
  have e3 := hcell 3 _ rfl
  have e4 := hcell 4 _ rfl
  rw [add_field _ _ 1 (by omega)] at e1
  rw [add_field _ _ 2 (by omega)] at e2
  rw [add_field _ _ 3 (by omega)] at e3
  rw [add_field _ _ 4 (by omega)] at e4
  exact ⟨ad, r, vv, at_, raw, nn, Aa, ca, Ar, cr, hA, hrow, hle, hC, hle2, hC2, by simpa using e0, by simpa using e1, by simpa using e2, by simpa using e3, by simpa using e4⟩
end Go.Proofs.YtnejnnfjbhpigaaDoor.Vit
