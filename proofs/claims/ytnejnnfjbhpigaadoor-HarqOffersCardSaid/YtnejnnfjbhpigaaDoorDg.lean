/- The document's process: its DocOffer. Each theorem says its own conditions. -/
import Derived.Test.YtnejnnfjbhpigaaDoorDe
namespace Go.Proofs.YtnejnnfjbhpigaaDoor.Vit
open Go.RowKit Go.Proofs.YtnejnnfjbhpigaaDoorW.PrintWords Go.Proofs.YtnejnnfjbhpigaaDoorW.PrintLast Go.Proofs.YtnejnnfjbhpigaaDoorW.PrintMore Go.Proofs.YtnejnnfjbhpigaaDoor.Mem Go.Proofs.YtnejnnfjbhpigaaDoor.Crc
attribute [local go_sem] max2_int min2_int max_two min_two max_three min_three max_four min_four   -- for this text's walks alone
set_option linter.unusedVariables false
set_option linter.unusedSimpArgs false

open Go.Proofs.YtnejnnfjbhpigaaDoor.Chk
theorem R_at {w : World} {base : Nat} {ok : Nat → Prop} {v : Value} {l : List Nat} {n : Nat} (hR : (Kd.int .u8).R 5 w base ok v (ints l)) (hl : l.length = n) (h0 : 0 < n) : ∃ g c, v = .slice (some ⟨g, 0, none⟩) n c ∧ n ≤ c ∧ (Kd.int .u8).C w (some ⟨g, 0, none⟩) n (ints l) ∧ base ≤ g := by
  have hb := (Kd.R_bound hR).1
  obtain ⟨g, c, rfl, _, _, _, _⟩ := Kd.R_form hR (by rw [ints_len]; omega)
  obtain ⟨A, c', e, h2, hC⟩ := Kd.R_reads hR
  rw [ints_len, hl] at e h2 hC ⊢
  injection e with e1 _ e3
  subst e1 e3
  exact ⟨g, c, rfl, h2, hC, (hb g rfl).2.1⟩
theorem openB_take {b m : List Nat} (h : openB b = some m) : m = b.take (b.length - 4) ∧ 4 ≤ b.length := by
  unfold openB at h
  by_cases h1 : b.length < 4
  · rw [if_pos h1] at h
    cases h
  · rw [if_neg h1] at h
    by_cases h2 : sumL (Crc.sum (b.take (b.length - 4))) 4 = b.drop (b.length - 4)
    · rw [if_pos h2] at h
      injection h with h
      exact ⟨h.symm, by omega⟩
    · rw [if_neg h2] at h
      cases h
theorem mapL_take (f : Nat → Nat) (n m : Nat) (h : m ≤ n) : (mapL f n).take m = mapL f m := by
  unfold mapL
  rw [← List.map_take, List.take_range, Nat.min_eq_left h]
/-- The document's process. -/
structure IsD (W : World) (pb b sb N : Nat) (xs : List Int) (cs : Nat → Nat) (came : Nat) (done : Bool) : Prop where
  blk : W.heap[pb]? = some (.cells #[.int .i64 (N : Int), .pointer (some ⟨b, 0, none⟩), .int .i64 (came : Int), .bool done] 47 (0, 0))
  buf : IsRef W b sb (8 * (N + 4)) xs cs
  le : N ≤ 64
  few : came ≤ 16
  cnt : ∀ v, cs v ≤ came
theorem IsD.below {w w' : World} {pb b sb N : Nat} {xs : List Int} {cs : Nat → Nat} {came : Nat} {done : Bool} (h : IsD w pb b sb N xs cs came done) (hB : Below w.heap.size w w') : IsD w' pb b sb N xs cs came done := ⟨below_cell_blk hB h.blk, h.buf.below hB, h.le, h.few, h.cnt⟩
theorem IsD.chg {w w' : World} {S : Nat → Prop} {pb b sb N : Nat} {xs : List Int} {cs : Nat → Nat} {came : Nat} {done : Bool} (h : IsD w pb b sb N xs cs came done) (hC : Chg S w w') (h1 : ¬ S pb) (h2 : ¬ S b) (h3 : ¬ S sb) : IsD w' pb b sb N xs cs came done := ⟨hC.keeps h.blk h1, h.buf.chg hC h2 h3, h.le, h.few, h.cnt⟩
theorem IsD.ne {w : World} {pb b sb N : Nat} {xs : List Int} {cs : Nat → Nat} {came : Nat} {done : Bool} (h : IsD w pb b sb N xs cs came done) : pb ≠ b ∧ pb ≠ sb := ⟨blk_ne h.blk h.buf.blk (by decide), blk_ne h.blk h.buf.row (by decide)⟩
theorem RBits_any (n : Nat) (hn : n ≤ 100) (w : World) : Calls Tryd.prog 38 #[.int .i64 (n : Int)] w fun e w' => e = .returned (.int .i64 ((8 * (n + 4) + 6 : Nat) : Int)) ∧ w = w' := by
  have hnb : (n : Int) ≤ 100 := by omega
  go_enter Tryd.func38, Tryd.ntmps38
  go_wp2
  go_ret
  exact ⟨by go_num, rfl⟩
/-- What a DocOffer leaves. -/
def DocPost (W : World) (pb b sb n v : Nat) (p : List Nat) (xs1 : List Int) (cs1 : Nat → Nat) (came1 : Nat) (e : Ending) (w' : World) : Prop :=
  ∃ A k c b' sb', e = .returned (.tuple #[.slice A k c, .int .i64 (hE (hRes (8 * (n + 4)) v p (addv xs1 v p (8 * (n + 4) + 6))))]) ∧ (Kd.int .u8).C w' A k (ints ((hRes (8 * (n + 4)) v p (addv xs1 v p (8 * (n + 4) + 6))).getD [])) ∧
    IsD w' pb b' sb' n (addv xs1 v p (8 * (n + 4) + 6)) (bump cs1 v) (came1 + 1) (hRes (8 * (n + 4)) v p (addv xs1 v p (8 * (n + 4) + 6))).isSome ∧ ((b' = b ∧ sb' = sb) ∨ (W.heap.size ≤ b' ∧ W.heap.size ≤ sb')) ∧ Chg (PS3 pb b sb) W w'
theorem doc_done {W W1 w3 w5 : World} {pb b sb b1 sb1 n v came1 : Nat} {p : List Nat} {xs1 X : List Int} {cs1 : Nat → Nat} {m : List Nat} {A : Option Addr} {k c : Nat} (h1 : Chg (PS3 pb b sb) W W1) (hX : addv xs1 v p (8 * (n + 4) + 6) = X) (hr : hRes (8 * (n + 4)) v p X = some m)
    (h3 : Chg (PS3 pb b1 sb1) W1 w3) (h5 : Below w3.heap.size w3 w5) (hP : IsD w5 pb b1 sb1 n X (bump cs1 v) (came1 + 1) false) (hR : (Kd.int .u8).C w5 A k (ints m)) (hA : ∀ ad, A = some ad → ad.block ≠ pb) (hs : SepB W b sb b1 sb1) {e : Ending} (he : e = .returned (.tuple #[.slice A k c, .int .i64 0])) :
    DocPost W pb b sb n v p xs1 cs1 came1 e (w5.setCell ⟨pb, 3, none⟩ (.bool true)) := by
  have hne := hP.ne
  have hc := off_chg h1 h3 h5 hs
  have hS : Chg (fun k => k = pb) w5 (w5.setCell ⟨pb, 3, none⟩ (.bool true)) := Chg.set_ (S := fun k => k = pb) (Chg.refl _ _) (p := ⟨pb, 3, none⟩) (fun _ => rfl) _
  unfold DocPost
  rw [hX, hr]
  exact ⟨A, k, c, b1, sb1, he, C_chg hR hS (fun ad had h => hA ad had h), ⟨blk_set hP.blk 3 _, hP.buf.chg hS (fun h => hne.1 h.symm) (fun h => hne.2 h.symm), hP.le, hP.few, hP.cnt⟩, hs, hc.set_ (fun _ => .inl rfl) _⟩
theorem doc_none {W W1 w3 w5 : World} {pb b sb b1 sb1 n v came1 : Nat} {p : List Nat} {xs1 X : List Int} {cs1 : Nat → Nat} (h1 : Chg (PS3 pb b sb) W W1) (hX : addv xs1 v p (8 * (n + 4) + 6) = X) (hr : hRes (8 * (n + 4)) v p X = none)
    (h3 : Chg (PS3 pb b1 sb1) W1 w3) (h5 : Below w3.heap.size w3 w5) (hP : IsD w5 pb b1 sb1 n X (bump cs1 v) (came1 + 1) false) (hs : SepB W b sb b1 sb1) {e : Ending} (he : e = .returned (.tuple #[.slice none 0 0, .int .i64 12])) :
    DocPost W pb b sb n v p xs1 cs1 came1 e w5 := by
  unfold DocPost
  rw [hX, hr]
  exact ⟨none, 0, 0, b1, sb1, he, Kd.C_nil _ _, hP, hs, off_chg h1 h3 h5 hs⟩
set_option maxHeartbeats 3200000 in
set_option maxRecDepth 100000 in
theorem doc_same (pb b sb n came : Nat) (xs : List Int) (cs : Nat → Nat) (v : Nat) (hv : v < 4) (p : List Nat) (hp : Bits p) (hpl : p.length = 8 * (n + 4) + 6) (A : Option Addr) (L c : Nat) (hL : 8 * (n + 4) + 6 = L) (hLc : L ≤ c) (W : World)
    (hI : IsD W pb b sb n xs cs came false) (hcm : came < 16) (hin : ∀ x ∈ xs, -31 ≤ x ∧ x ≤ 31) (hC : (Kd.int .u8).C W A L (ints p)) (hA : ∀ ad, A = some ad → ¬ PS3 pb b sb ad.block) :
    Calls Tryd.prog 20 #[.pointer (some ⟨pb, 0, none⟩), .int .i64 (n : Int), .int .i64 (v : Int), .slice A L c] W (DocPost W pb b sb n v p xs cs came) := by
  have hle := hI.le
  have hrt := Right1_any (ints p) A L c W hC (by omega)
  rw [show (!decide (∃ x ∈ ints p, 1 < x)) = true by
    rw [Bool.not_eq_true', decide_eq_false_iff_not]
    rintro ⟨x, hx, h1⟩
    obtain ⟨y, hy, rfl⟩ := List.mem_map.1 hx
    have := hp y hy
    omega] at hrt
  have hbi := fun W => RBits_any n (by omega) W
  rw [hL] at hbi
  have c3 : W.cell? ⟨pb, 3, none⟩ = some (.bool false) := blk_cell hI.blk 3
  have HC := Aside0.mk (And.intro hle (And.intro hv (And.intro hp (And.intro hpl (And.intro hL (And.intro hLc (And.intro hrt (And.intro hI (And.intro hC (And.intro hin (And.intro hA hbi)))))))))))
  have HSEP := Aside0.mk (show SepB W b sb b sb from .inl ⟨rfl, rfl⟩)
  have hce : ((came : Int) == 16) = false := by rw [beq_eq_false_iff_ne]; omega
  have hce2 : ¬ (came : Int) = 16 := by omega
  have hn0 : ¬ (n : Int) < 0 := by omega
  have hn64 : ¬ (64 : Int) < (n : Int) := by omega
  have hv0 : ¬ (v : Int) < 0 := by omega
  have hv3 : ¬ (3 : Int) < (v : Int) := by omega
  have HCM := Aside0.mk hcm
  clear hle hv hp hpl hLc hrt hbi hI hC hin hA hcm hL
  go_enter Tryd.func20, Tryd.ntmps20
  go_wp2_with fail
  refine HC.out.2.2.2.2.2.2.1.mono ?_
  rintro e W1 ⟨rfl, q1, hq1⟩
  have hB1 : Below W.heap.size W W1 := by rw [hq1]; exact pw_below_drewN (Below.refl _ _) q1
  clear hq1
  have hI1 := HC.out.2.2.2.2.2.2.2.1.below hB1
  have k0 : W1.cell? ⟨pb, 0, none⟩ = some (.int .i64 (n : Int)) := blk_cell hI1.blk 0
  have k2 : W1.cell? ⟨pb, 2, none⟩ = some (.int .i64 (came : Int)) := blk_cell hI1.blk 2
  have HP := Aside0.mk (And.intro hI1 (And.intro (Chg.of_below hB1 (PS3 pb b sb)) (And.intro (Kd.C_below HC.out.2.2.2.2.2.2.2.2.1 hB1) (And.intro HC.out.2.2.2.2.2.2.2.2.2.1 (And.intro HCM.out HC.out.2.2.2.2.2.2.2.2.2.2.1)))))
  clear hI1 hB1
  go_wp2_with fail
  refine (HC.out.2.2.2.2.2.2.2.2.2.2.2 _).mono ?_
  rintro e w9 ⟨rfl, rfl⟩
  have M1 : W1.cell? ⟨pb, 1, none⟩ = some (.pointer (some ⟨b, 0, none⟩)) := blk_cell HP.out.1.blk 1
  have hadd := DocAdd_any W1 b sb (8 * (n + 4)) xs cs HP.out.1.buf v HC.out.2.1 (Nat.le_trans (HP.out.1.cnt v) (by have := HP.out.1.few; omega)) p A c (by rw [HC.out.2.2.2.2.1]; exact HP.out.2.2.1) HC.out.2.2.2.1
  rw [HC.out.2.2.2.2.1] at hadd
  have HA := Aside0.mk hadd
  clear hadd
  go_wp2_with fail
  refine HA.out.mono ?_
  rintro e w2 ⟨rfl, hI2, hC2⟩
  rw [← HC.out.2.2.2.2.1] at hI2
  have hne := HP.out.1.ne
  have hbk2 := hC2.keeps HP.out.1.blk (by show ¬ (pb = b ∨ pb = sb); exact fun h => h.elim hne.1 hne.2)
  have c2 : w2.cell? ⟨pb, 2, none⟩ = some (.int .i64 (came : Nat)) := blk_cell hbk2 2
  have f2 : w2.frozen? ⟨pb, 2, none⟩ = false := blk_frozen hbk2 2
  have hS3 : Chg (PS3 pb b sb) W1 (w2.setCell ⟨pb, 2, none⟩ (.int .i64 ((came : Nat) + 1))) := (hC2.mono (fun k hk => .inr hk)).set_ (fun _ => .inl rfl) _
  have hP3 : IsD (w2.setCell ⟨pb, 2, none⟩ (.int .i64 ((came : Nat) + 1))) pb b sb n (addv xs v p (8 * (n + 4) + 6)) (bump cs v) (came + 1) false :=
    by
      rw [show ((came : Nat) : Int) + 1 = ((came + 1 : Nat) : Int) from by omega]
      exact ⟨blk_set hbk2 2 _, hI2.chg (Chg.set_ (S := fun k => k = pb) (Chg.refl _ _) (p := ⟨pb, 2, none⟩) (fun _ => rfl) _) (fun h => hne.1 h.symm) (fun h => hne.2 h.symm), HP.out.1.le, by have := HP.out.2.2.2.2.1; omega, fun z => by have h1 := HP.out.1.cnt z; have h2 := HP.out.1.cnt v; unfold bump; split <;> omega⟩
  have hC3 := C_chg HP.out.2.2.1 hS3 HP.out.2.2.2.2.2
  have hb3 : ∀ x ∈ addv xs v p (8 * (n + 4) + 6), -31 ≤ x ∧ x ≤ 31 := addv_in _ _ _ HP.out.2.2.2.1 _
  obtain ⟨X, hX⟩ : ∃ X, addv xs v p (8 * (n + 4) + 6) = X := ⟨_, rfl⟩
  rw [hX] at hP3 hb3
  have hcb : (came : Int) < 16 := by have := HP.out.2.2.2.2.1; omega
  have M2 : (w2.setCell ⟨pb, 2, none⟩ (.int .i64 ((came : Int) + 1))).cell? ⟨pb, 1, none⟩ = some (.pointer (some ⟨b, 0, none⟩)) := blk_cell hP3.blk 1
  have M3 : (w2.setCell ⟨pb, 2, none⟩ (.int .i64 ((came : Int) + 1))).cell? ⟨b, 1, none⟩ = some (.slice (some ⟨sb, 0, none⟩) (4 * (8 * (n + 4) + 6)) (4 * (8 * (n + 4) + 6))) := blk_cell hP3.buf.blk 1
  have H3 := Aside0.mk (And.intro hP3 (And.intro hS3 (And.intro hC3 (And.intro hb3 hX))))
  clear hI2 hC2 hbk2 hS3 hP3 hC3 hb3 hX hne
  go_wp2_with (fail)
  obtain ⟨w3, hw3⟩ : ∃ w3, w2.setCell ⟨pb, 2, none⟩ (.int .i64 ((came : Int) + 1)) = w3 := ⟨_, rfl⟩
  rw [hw3] at H3 M2 M3 ⊢
  obtain ⟨hP3, hS3, hC3, hb3, hX⟩ := H3.out
  have hlenX := hP3.buf.len
  have hdec := Decode9_any X (8 * (n + 4)) (by have := HC.out.1; omega) hlenX hb3 (some ⟨sb, 0, none⟩) (4 * (8 * (n + 4) + 6)) w3 (by rw [hlenX]; exact hP3.buf.C) (by omega)
  rw [hlenX] at hdec
  have HD := Aside0.mk hdec
  clear hw3 M1 M2 M3 c2 f2 hdec hP3 hS3 hC3 hb3 hX hlenX
  refine HD.out.mono ?_
  rintro e w4 ⟨u4, rfl, hR4, hB4⟩
  have hR4 : (Kd.int .u8).R 5 w4 w3.heap.size (fun _ => True) u4 (ints (hDec (8 * (n + 4)) X)) := hR4
  obtain ⟨A4, c4, rfl, hc4, hC4⟩ := Kd.R_reads hR4
  rw [ints_len, hDec_len] at hc4 hC4 ⊢
  have hby := RBytes_any (hDec (8 * (n + 4)) X) (hDec_bits _ _) A4 (8 * (n + 4)) c4 w4 (hDec_len _ _) hC4 (by have := HC.out.1; omega)
  have HY := Aside0.mk (And.intro hby hB4)
  clear hby hR4 hC4 hc4 hB4
  go_wp2_with fail
  refine HY.out.1.mono ?_
  rintro e w5 ⟨u5, rfl, hR5, hB5⟩
  obtain ⟨g5, c5, rfl, hc5, hC5, hg5⟩ := R_at (n := n + 4) hR5 (by rw [bytesB_len, hDec_len]; omega) (by omega)
  have hop := ROpen_any (bytesB (hDec (8 * (n + 4)) X)) (bytesB_lt (hDec_bits _ _)) g5 0 (n + 4) c5 w5 (by rw [bytesB_len, hDec_len]; omega) hC5 (by have := HC.out.1; omega) hc5 n rfl
  obtain ⟨r1, hr1⟩ : ∃ r1, openB (bytesB (hDec (8 * (n + 4)) X)) = r1 := ⟨_, rfl⟩
  unfold ropenV at hop
  rw [hr1] at hop
  have hB35 : Below w3.heap.size w3 w5 := HY.out.2.trans (hB5.mono HY.out.2.size)
  have HO := Aside0.mk (And.intro hop (And.intro hr1 (And.intro hB35 (And.intro hC5 (Nat.le_trans HY.out.2.size hg5)))))
  clear hop hr1 hR5 hB5 hC5 hg5 hB35
  go_wp2_with fail
  refine HO.out.1.mono ?_
  rintro e w6 ⟨he6, hB6⟩
  have hB36 : Below w3.heap.size w3 w6 := HO.out.2.2.1.trans (hB6.mono HO.out.2.2.1.size)
  have hP6 := H3.out.1.below hB36
  have f6 : w6.frozen? ⟨pb, 3, none⟩ = false := blk_frozen hP6.blk 3
  have c6 : w6.cell? ⟨pb, 3, none⟩ = some (.bool false) := blk_cell hP6.blk 3
  have H6 := Aside0.mk (And.intro (Kd.C_below HO.out.2.2.2.1 hB6) (And.intro hB36 hP6))
  clear hB6 hB36 hP6
  cases r1 with
  | some m1 =>
    simp only [Option.isSome_some, if_true] at he6
    subst he6
    have hres : hRes (8 * (n + 4)) v p X = some m1 := hRes_dec HO.out.2.1
    have HRES := Aside0.mk hres
    clear hres
    go_wp2
    go_ret2
    have htk := openB_take HO.out.2.1
    have hlb : (bytesB (hDec (8 * (n + 4)) X)).length = n + 4 := by rw [bytesB_len, hDec_len]; omega
    rw [hlb, show n + 4 - 4 = n by omega] at htk
    have hCm := C_part (m := n) H6.out.1 hlb (by omega)
    rw [← htk.1] at hCm
    have hpb3 := blk_lt H3.out.1.blk
    exact doc_done HP.out.2.1 H3.out.2.2.2.2 HRES.out H3.out.2.1 H6.out.2.1 H6.out.2.2 hCm (fun ad had h => by
      injection had with had
      subst had
      have h1 := HO.out.2.2.2.2
      simp only at h
      omega) HSEP.out rfl
  | none =>
    simp only [Option.isSome_none, if_false, Bool.false_eq_true, ↓reduceIte] at he6
    subst he6
    have hres := hRes_alone (v := v) (p := p) HO.out.2.1
    have hal := RAlone_any p HC.out.2.2.1 v HC.out.2.1 A L c (8 * (n + 4)) w6 (by rw [HC.out.2.2.2.1]; exact HC.out.2.2.2.2.1) HC.out.2.2.2.2.1.symm (Kd.C_below H3.out.2.2.1 H6.out.2.1) (by have := HC.out.1; have := HC.out.2.2.2.2.1; omega)
    rw [← HC.out.2.2.2.2.1] at hal
    unfold raV at hal
    by_cases hok : aOk p v (8 * (n + 4)) (8 * (n + 4) + 6) = true
    · rw [if_pos hok] at hres
      simp only [if_pos hok] at hal
      rw [HC.out.2.2.2.2.1] at hal
      have HAL := Aside0.mk hal
      have HRES := Aside0.mk hres
      clear hal hres hok
      go_wp2_with fail
      refine HAL.out.mono ?_
      rintro e w7 ⟨g7, c7, rfl, hR7, hc7, hB7⟩
      obtain ⟨A7, c7', e7, hc7', hC7⟩ := Kd.R_reads hR7
      rw [ints_len, mapL_len] at e7 hC7
      injection e7 with e7a e7b e7c
      subst e7a e7c
      have hC7p := C_part (m := 8 * (n + 4)) hC7 (mapL_len _ _) (by have := HC.out.2.2.2.2.1; omega)
      rw [mapL_take _ _ _ (by have := HC.out.2.2.2.2.1; omega)] at hC7p
      have hby := RBytes_any (mapL (aB p v) (8 * (n + 4))) (mapL_bits (aB_le p v) _) (some ⟨g7, 0, none⟩) (8 * (n + 4)) c7 w7 (mapL_len _ _) hC7p (by have := HC.out.1; omega)
      have HY2 := Aside0.mk (And.intro hby hB7)
      clear hby hR7 hC7 hc7 hc7' hB7 hC7p
      go_wp2_with fail
      refine HY2.out.1.mono ?_
      rintro e w8 ⟨u8, rfl, hR8, hB8⟩
      obtain ⟨g8, c8, rfl, hc8, hC8, hg8⟩ := R_at (n := n + 4) hR8 (by rw [bytesB_len, mapL_len]; omega) (by omega)
      have hop := ROpen_any (bytesB (mapL (aB p v) (8 * (n + 4)))) (bytesB_lt (mapL_bits (aB_le p v) _)) g8 0 (n + 4) c8 w8 (by rw [bytesB_len, mapL_len]; omega) hC8 (by have := HC.out.1; omega) hc8 n rfl
      obtain ⟨r2, hr2⟩ : ∃ r2, openB (bytesB (mapL (aB p v) (8 * (n + 4)))) = r2 := ⟨_, rfl⟩
      unfold ropenV at hop
      rw [hr2] at hop
      have hB68 : Below w6.heap.size w6 w8 := HY2.out.2.trans (hB8.mono HY2.out.2.size)
      have HO2 := Aside0.mk (And.intro hop (And.intro hr2 (And.intro hB68 (And.intro hC8 (Nat.le_trans HY2.out.2.size hg8)))))
      clear hop hr2 hR8 hB8 hC8 hg8 hB68
      go_wp2_with fail
      refine HO2.out.1.mono ?_
      rintro e w9 ⟨he9, hB9⟩
      have hB69 : Below w6.heap.size w6 w9 := HO2.out.2.2.1.trans (hB9.mono HO2.out.2.2.1.size)
      have hB39 : Below w3.heap.size w3 w9 := H6.out.2.1.trans (hB69.mono H6.out.2.1.size)
      have hP9 := H3.out.1.below hB39
      have f9 : w9.frozen? ⟨pb, 3, none⟩ = false := blk_frozen hP9.blk 3
      have c9 : w9.cell? ⟨pb, 3, none⟩ = some (.bool false) := blk_cell hP9.blk 3
      have hres2 := HRES.out.trans HO2.out.2.1
      have H9 := Aside0.mk (And.intro (Kd.C_below HO2.out.2.2.2.1 hB9) (And.intro hB39 (And.intro hP9 hres2)))
      clear hB9 hB69 hB39 hP9 hres2
      cases r2 with
      | some m2 =>
        simp only [Option.isSome_some, if_true] at he9
        subst he9
        go_wp2
        go_ret2
        have htk := openB_take HO2.out.2.1
        have hlb : (bytesB (mapL (aB p v) (8 * (n + 4)))).length = n + 4 := by rw [bytesB_len, mapL_len]; omega
        rw [hlb, show n + 4 - 4 = n by omega] at htk
        have hCm := C_part (m := n) H9.out.1 hlb (by omega)
        rw [← htk.1] at hCm
        have hpb3 := blk_lt H3.out.1.blk
        have hs36 := H6.out.2.1.size
        exact doc_done HP.out.2.1 H3.out.2.2.2.2 H9.out.2.2.2 H3.out.2.1 H9.out.2.1 H9.out.2.2.1 hCm (fun ad had h => by
          injection had with had
          subst had
          have h1 := HO2.out.2.2.2.2
          simp only at h
          omega) HSEP.out rfl
      | none =>
        simp only [Option.isSome_none, if_false, Bool.false_eq_true, ↓reduceIte] at he9
        subst he9
        go_wp2
        go_ret2
        exact doc_none HP.out.2.1 H3.out.2.2.2.2 H9.out.2.2.2 H3.out.2.1 H9.out.2.1 H9.out.2.2.1 HSEP.out rfl
    · rw [if_neg hok] at hres
      simp only [if_neg hok] at hal
      rw [HC.out.2.2.2.2.1] at hal
      have HAL := Aside0.mk hal
      have HRES := Aside0.mk hres
      clear hal hres hok
      go_wp2_with (first
        | (go_at_call 43; refine HAL.out.mono ?_; rintro e w7 ⟨g7, c7, rfl, hR7, hc7, hB7⟩; have H7 := Aside0.mk hB7; clear hR7 hB7 hc7))
      go_ret2
      exact doc_none HP.out.2.1 H3.out.2.2.2.2 HRES.out H3.out.2.1 (H6.out.2.1.trans (H7.out.mono H6.out.2.1.size)) (H6.out.2.2.below H7.out) HSEP.out rfl
theorem doc_begin {W W0 w2 : World} {pb b sb n N : Nat} {xs : List Int} {cs : Nat → Nat} {came : Nat} {p : List Nat} {A : Option Addr} {L b1 sb1 c1 : Nat} {xs1 : List Int} {cs1 : Nat → Nat} (hB0 : Below W.heap.size W W0) (hI : IsD W pb b sb N xs cs came false) (hn : n ≤ 64)
    (hC : (Kd.int .u8).C W A L (ints p)) (hL : 0 < L) (hA : ∀ ad, A = some ad → ¬ PS3 pb b sb ad.block) (hb1 : W0.heap.size + 1 = b1) (hsb1 : W0.heap.size = sb1) (hx : List.replicate (4 * (8 * (n + 4) + 6)) (0 : Int) = xs1) (hcs : (fun _ => 0) = cs1) (hc1 : (0 : Nat) = c1)
    (hI2 : IsRef w2 b1 sb1 (8 * (n + 4)) xs1 cs1) (hB2 : Below W0.heap.size W0 w2) :
    IsD (((w2.setCell ⟨pb, 0, none⟩ (.int .i64 (n : Int))).setCell ⟨pb, 1, none⟩ (.pointer (some ⟨b1, 0, none⟩))).setCell ⟨pb, 2, none⟩ (.int .i64 0)) pb b1 sb1 n xs1 cs1 c1 false ∧
      Chg (PS3 pb b sb) W (((w2.setCell ⟨pb, 0, none⟩ (.int .i64 (n : Int))).setCell ⟨pb, 1, none⟩ (.pointer (some ⟨b1, 0, none⟩))).setCell ⟨pb, 2, none⟩ (.int .i64 0)) ∧
      (Kd.int .u8).C (((w2.setCell ⟨pb, 0, none⟩ (.int .i64 (n : Int))).setCell ⟨pb, 1, none⟩ (.pointer (some ⟨b1, 0, none⟩))).setCell ⟨pb, 2, none⟩ (.int .i64 0)) A L (ints p) ∧ (∀ x ∈ xs1, -31 ≤ x ∧ x ≤ 31) ∧ c1 < 16 ∧ (∀ ad, A = some ad → ¬ PS3 pb b1 sb1 ad.block) := by
  have hB02 : Below W.heap.size W w2 := hB0.trans (hB2.mono hB0.size)
  have hbk := below_cell_blk hB02 hI.blk
  have hpb := blk_lt hI.blk
  have hs := hB0.size
  have hS : Chg (fun k => k = pb) w2 (((w2.setCell ⟨pb, 0, none⟩ (.int .i64 (n : Int))).setCell ⟨pb, 1, none⟩ (.pointer (some ⟨b1, 0, none⟩))).setCell ⟨pb, 2, none⟩ (.int .i64 0)) :=
    (((Chg.refl (fun k => k = pb) w2).set_ (p := ⟨pb, 0, none⟩) (fun _ => rfl) _).set_ (p := ⟨pb, 1, none⟩) (fun _ => rfl) _).set_ (p := ⟨pb, 2, none⟩) (fun _ => rfl) _
  refine ⟨⟨?_, hI2.chg hS (by omega) (by omega), hn, by omega, fun v => by rw [← hcs]; exact Nat.zero_le _⟩, (Chg.of_below hB02 _).trans hS (fun i _ h => .inl h), C_chg (Kd.C_below hC hB02) hS (fun ad ha h => hA ad ha (.inl h)), ?_, by omega, ?_⟩
  · rw [← hc1]
    exact blk_set (blk_set (blk_set hbk 0 _) 1 _) 2 _
  · intro x h
    rw [← hx] at h
    obtain ⟨_, rfl⟩ := List.mem_replicate.1 h
    omega
  · intro ad ha h
    have hl := C_lt hC hL ad ha
    rcases h with h | h | h
    · exact hA ad ha (.inl h)
    · omega
    · omega
set_option maxHeartbeats 3200000 in
set_option maxRecDepth 100000 in
theorem doc_other (pb b sb n N came : Nat) (xs : List Int) (cs : Nat → Nat) (v : Nat) (hv : v < 4) (p : List Nat) (hp : Bits p) (hpl : p.length = 8 * (n + 4) + 6) (A : Option Addr) (L c : Nat) (hL : 8 * (n + 4) + 6 = L) (hLc : L ≤ c) (W : World)
    (hI : IsD W pb b sb N xs cs came false) (hcm : n ≠ N) (hle : n ≤ 64) (hC : (Kd.int .u8).C W A L (ints p)) (hA : ∀ ad, A = some ad → ¬ PS3 pb b sb ad.block)
    (xs1 : List Int) (cs1 : Nat → Nat) (c1 : Nat) (hx1 : List.replicate (4 * (8 * (n + 4) + 6)) (0 : Int) = xs1) (hcs1 : (fun _ => 0) = cs1) (hc1 : (0 : Nat) = c1) :
    Calls Tryd.prog 20 #[.pointer (some ⟨pb, 0, none⟩), .int .i64 (n : Int), .int .i64 (v : Int), .slice A L c] W (DocPost W pb b sb n v p xs1 cs1 c1) := by
  have hrt := Right1_any (ints p) A L c W hC (by omega)
  rw [show (!decide (∃ x ∈ ints p, 1 < x)) = true by
    rw [Bool.not_eq_true', decide_eq_false_iff_not]
    rintro ⟨x, hx, h1⟩
    obtain ⟨y, hy, rfl⟩ := List.mem_map.1 hx
    have := hp y hy
    omega] at hrt
  have hbi := fun W => RBits_any n (by omega) W
  rw [hL] at hbi
  have c3 : W.cell? ⟨pb, 3, none⟩ = some (.bool false) := blk_cell hI.blk 3
  have hnew := New13_any (8 * (n + 4)) (by omega)
  obtain ⟨M, hM⟩ : ∃ M, 8 * (n + 4) = M := ⟨_, rfl⟩
  rw [hM] at hnew
  have hm : 8 * ((n : Int) + 4) = (M : Int) := by omega
  have hnb : (n : Int) ≤ 64 := by omega
  have HC := Aside0.mk (And.intro hle (And.intro hv (And.intro hp (And.intro hpl (And.intro hL (And.intro hLc (And.intro hrt (And.intro hI (And.intro hC (And.intro hx1 (And.intro hA hbi)))))))))))
  have HQ := Aside0.mk (And.intro hcs1 (And.intro hc1 (And.intro hnew hM)))
  have hnN : ((n : Int) == (N : Int)) = false := by rw [beq_eq_false_iff_ne]; omega
  have hnN2 : ¬ (n : Int) = (N : Int) := by omega
  have hn0 : ¬ (n : Int) < 0 := by omega
  have hn64 : ¬ (64 : Int) < (n : Int) := by omega
  have hv0 : ¬ (v : Int) < 0 := by omega
  have hv3 : ¬ (3 : Int) < (v : Int) := by omega
  clear hle hv hp hpl hLc hrt hbi hI hC hA hcm hL hx1 hcs1 hc1 hnew hM
  go_enter Tryd.func20, Tryd.ntmps20
  go_wp2_with fail
  refine HC.out.2.2.2.2.2.2.1.mono ?_
  rintro e W0 ⟨rfl, q0, hq0⟩
  have hB0 : Below W.heap.size W W0 := by rw [hq0]; exact pw_below_drewN (Below.refl _ _) q0
  clear hq0
  have hI0 := HC.out.2.2.2.2.2.2.2.1.below hB0
  have k0 : W0.cell? ⟨pb, 0, none⟩ = some (.int .i64 (N : Int)) := blk_cell hI0.blk 0
  have k2 : W0.cell? ⟨pb, 2, none⟩ = some (.int .i64 (came : Int)) := blk_cell hI0.blk 2
  have H0 := Aside0.mk (And.intro hB0 hI0)
  clear hB0 hI0
  go_wp2_with fail
  refine (HC.out.2.2.2.2.2.2.2.2.2.2.2 _).mono ?_
  rintro e w9 ⟨rfl, rfl⟩
  go_wp2_with fail
  refine (HQ.out.2.2.1 _).mono ?_
  rintro e w8 ⟨rfl, hI8, hB8⟩
  rw [← HQ.out.2.2.2, HC.out.2.2.2.2.2.2.2.2.2.1, HQ.out.1] at hI8
  have hbk := below_cell_blk hB8 H0.out.2.blk
  have f0 := blk_frozen hbk 0
  have f1 := blk_frozen hbk 1
  have f2 := blk_frozen hbk 2
  have g0 := blk_cell hbk 0
  have g1 := blk_cell hbk 1
  have g2 := blk_cell hbk 2
  simp at g0 g1 g2
  obtain ⟨b1, hb1⟩ : ∃ b1, W0.heap.size + 1 = b1 := ⟨_, rfl⟩
  obtain ⟨sb1, hsb1⟩ : ∃ sb1, W0.heap.size = sb1 := ⟨_, rfl⟩
  rw [hb1, hsb1] at hI8
  rw [hb1]
  have hHP := doc_begin H0.out.1 HC.out.2.2.2.2.2.2.2.1 HC.out.1 HC.out.2.2.2.2.2.2.2.2.1 (by have := HC.out.2.2.2.2.1; omega) HC.out.2.2.2.2.2.2.2.2.2.2.1 hb1 hsb1 HC.out.2.2.2.2.2.2.2.2.2.1 HQ.out.1 HQ.out.2.1 hI8 hB8
  have HSEP := Aside0.mk (show SepB W b sb b1 sb1 from by have := H0.out.1.size; unfold SepB; omega)
  have M1 := blk_cell hHP.1.blk 1
  simp only [List.getElem?_toArray, List.getElem?_cons_zero, List.getElem?_cons_succ] at M1
  have HP0 := Aside0.mk hHP
  clear hI8 hB8 hbk hb1 hsb1 hHP k0 k2
  go_wp2_with fail
  obtain ⟨W1, hW1⟩ : ∃ W1, (((w8.setCell ⟨pb, 0, none⟩ (.int .i64 (n : Int))).setCell ⟨pb, 1, none⟩ (.pointer (some ⟨b1, 0, none⟩))).setCell ⟨pb, 2, none⟩ (.int .i64 0)) = W1 := ⟨_, rfl⟩
  have hHP := HP0.out
  rw [hW1] at hHP M1 ⊢
  have HP := Aside0.mk hHP
  clear hHP HP0 hW1 f0 f1 f2 g0 g1 g2 M1
  have M1 : W1.cell? ⟨pb, 1, none⟩ = some (.pointer (some ⟨b1, 0, none⟩)) := blk_cell HP.out.1.blk 1
  have hadd := DocAdd_any W1 b1 sb1 (8 * (n + 4)) xs1 cs1 HP.out.1.buf v HC.out.2.1 (Nat.le_trans (HP.out.1.cnt v) (by have := HP.out.1.few; omega)) p A c (by rw [HC.out.2.2.2.2.1]; exact HP.out.2.2.1) HC.out.2.2.2.1
  rw [HC.out.2.2.2.2.1] at hadd
  have HA := Aside0.mk hadd
  clear hadd
  refine HA.out.mono ?_
  rintro e w2 ⟨rfl, hI2, hC2⟩
  rw [← HC.out.2.2.2.2.1] at hI2
  have hne := HP.out.1.ne
  have hbk2 := hC2.keeps HP.out.1.blk (by show ¬ (pb = b1 ∨ pb = sb1); exact fun h => h.elim hne.1 hne.2)
  have c2 : w2.cell? ⟨pb, 2, none⟩ = some (.int .i64 (c1 : Nat)) := blk_cell hbk2 2
  have f2 : w2.frozen? ⟨pb, 2, none⟩ = false := blk_frozen hbk2 2
  have hS3 : Chg (PS3 pb b1 sb1) W1 (w2.setCell ⟨pb, 2, none⟩ (.int .i64 ((c1 : Nat) + 1))) := (hC2.mono (fun k hk => .inr hk)).set_ (fun _ => .inl rfl) _
  have hP3 : IsD (w2.setCell ⟨pb, 2, none⟩ (.int .i64 ((c1 : Nat) + 1))) pb b1 sb1 n (addv xs1 v p (8 * (n + 4) + 6)) (bump cs1 v) (c1 + 1) false :=
    by
      rw [show ((c1 : Nat) : Int) + 1 = ((c1 + 1 : Nat) : Int) from by omega]
      exact ⟨blk_set hbk2 2 _, hI2.chg (Chg.set_ (S := fun k => k = pb) (Chg.refl _ _) (p := ⟨pb, 2, none⟩) (fun _ => rfl) _) (fun h => hne.1 h.symm) (fun h => hne.2 h.symm), HP.out.1.le, by have := HP.out.2.2.2.2.1; omega, fun z => by have h1 := HP.out.1.cnt z; have h2 := HP.out.1.cnt v; unfold bump; split <;> omega⟩
  have hC3 := C_chg HP.out.2.2.1 hS3 HP.out.2.2.2.2.2
  have hb3 : ∀ x ∈ addv xs1 v p (8 * (n + 4) + 6), -31 ≤ x ∧ x ≤ 31 := addv_in _ _ _ HP.out.2.2.2.1 _
  obtain ⟨X, hX⟩ : ∃ X, addv xs1 v p (8 * (n + 4) + 6) = X := ⟨_, rfl⟩
  rw [hX] at hP3 hb3
  have hcb : (c1 : Int) < 16 := by have := HP.out.2.2.2.2.1; omega
  have M2 : (w2.setCell ⟨pb, 2, none⟩ (.int .i64 ((c1 : Int) + 1))).cell? ⟨pb, 1, none⟩ = some (.pointer (some ⟨b1, 0, none⟩)) := blk_cell hP3.blk 1
  have M3 : (w2.setCell ⟨pb, 2, none⟩ (.int .i64 ((c1 : Int) + 1))).cell? ⟨b1, 1, none⟩ = some (.slice (some ⟨sb1, 0, none⟩) (4 * (8 * (n + 4) + 6)) (4 * (8 * (n + 4) + 6))) := blk_cell hP3.buf.blk 1
  have H3 := Aside0.mk (And.intro hP3 (And.intro hS3 (And.intro hC3 (And.intro hb3 hX))))
  clear hI2 hC2 hbk2 hS3 hP3 hC3 hb3 hX hne
  go_wp2_with (fail)
  obtain ⟨w3, hw3⟩ : ∃ w3, w2.setCell ⟨pb, 2, none⟩ (.int .i64 ((c1 : Int) + 1)) = w3 := ⟨_, rfl⟩
  rw [hw3] at H3 M2 M3 ⊢
  obtain ⟨hP3, hS3, hC3, hb3, hX⟩ := H3.out
  have hlenX := hP3.buf.len
  have hdec := Decode9_any X (8 * (n + 4)) (by have := HC.out.1; omega) hlenX hb3 (some ⟨sb1, 0, none⟩) (4 * (8 * (n + 4) + 6)) w3 (by rw [hlenX]; exact hP3.buf.C) (by omega)
  rw [hlenX] at hdec
  have HD := Aside0.mk hdec
  clear hw3 M1 M2 M3 c2 f2 hdec hP3 hS3 hC3 hb3 hX hlenX
  refine HD.out.mono ?_
  rintro e w4 ⟨u4, rfl, hR4, hB4⟩
  have hR4 : (Kd.int .u8).R 5 w4 w3.heap.size (fun _ => True) u4 (ints (hDec (8 * (n + 4)) X)) := hR4
  obtain ⟨A4, c4, rfl, hc4, hC4⟩ := Kd.R_reads hR4
  rw [ints_len, hDec_len] at hc4 hC4 ⊢
  have hby := RBytes_any (hDec (8 * (n + 4)) X) (hDec_bits _ _) A4 (8 * (n + 4)) c4 w4 (hDec_len _ _) hC4 (by have := HC.out.1; omega)
  have HY := Aside0.mk (And.intro hby hB4)
  clear hby hR4 hC4 hc4 hB4
  go_wp2_with fail
  refine HY.out.1.mono ?_
  rintro e w5 ⟨u5, rfl, hR5, hB5⟩
  obtain ⟨g5, c5, rfl, hc5, hC5, hg5⟩ := R_at (n := n + 4) hR5 (by rw [bytesB_len, hDec_len]; omega) (by omega)
  have hop := ROpen_any (bytesB (hDec (8 * (n + 4)) X)) (bytesB_lt (hDec_bits _ _)) g5 0 (n + 4) c5 w5 (by rw [bytesB_len, hDec_len]; omega) hC5 (by have := HC.out.1; omega) hc5 n rfl
  obtain ⟨r1, hr1⟩ : ∃ r1, openB (bytesB (hDec (8 * (n + 4)) X)) = r1 := ⟨_, rfl⟩
  unfold ropenV at hop
  rw [hr1] at hop
  have hB35 : Below w3.heap.size w3 w5 := HY.out.2.trans (hB5.mono HY.out.2.size)
  have HO := Aside0.mk (And.intro hop (And.intro hr1 (And.intro hB35 (And.intro hC5 (Nat.le_trans HY.out.2.size hg5)))))
  clear hop hr1 hR5 hB5 hC5 hg5 hB35
  go_wp2_with fail
  refine HO.out.1.mono ?_
  rintro e w6 ⟨he6, hB6⟩
  have hB36 : Below w3.heap.size w3 w6 := HO.out.2.2.1.trans (hB6.mono HO.out.2.2.1.size)
  have hP6 := H3.out.1.below hB36
  have f6 : w6.frozen? ⟨pb, 3, none⟩ = false := blk_frozen hP6.blk 3
  have c6 : w6.cell? ⟨pb, 3, none⟩ = some (.bool false) := blk_cell hP6.blk 3
  have H6 := Aside0.mk (And.intro (Kd.C_below HO.out.2.2.2.1 hB6) (And.intro hB36 hP6))
  clear hB6 hB36 hP6
  cases r1 with
  | some m1 =>
    simp only [Option.isSome_some, if_true] at he6
    subst he6
    have hres : hRes (8 * (n + 4)) v p X = some m1 := hRes_dec HO.out.2.1
    have HRES := Aside0.mk hres
    clear hres
    go_wp2
    go_ret2
    have htk := openB_take HO.out.2.1
    have hlb : (bytesB (hDec (8 * (n + 4)) X)).length = n + 4 := by rw [bytesB_len, hDec_len]; omega
    rw [hlb, show n + 4 - 4 = n by omega] at htk
    have hCm := C_part (m := n) H6.out.1 hlb (by omega)
    rw [← htk.1] at hCm
    have hpb3 := blk_lt H3.out.1.blk
    exact doc_done HP.out.2.1 H3.out.2.2.2.2 HRES.out H3.out.2.1 H6.out.2.1 H6.out.2.2 hCm (fun ad had h => by
      injection had with had
      subst had
      have h1 := HO.out.2.2.2.2
      simp only at h
      omega) HSEP.out rfl
  | none =>
    simp only [Option.isSome_none, if_false, Bool.false_eq_true, ↓reduceIte] at he6
    subst he6
    have hres := hRes_alone (v := v) (p := p) HO.out.2.1
    have hal := RAlone_any p HC.out.2.2.1 v HC.out.2.1 A L c (8 * (n + 4)) w6 (by rw [HC.out.2.2.2.1]; exact HC.out.2.2.2.2.1) HC.out.2.2.2.2.1.symm (Kd.C_below H3.out.2.2.1 H6.out.2.1) (by have := HC.out.1; have := HC.out.2.2.2.2.1; omega)
    rw [← HC.out.2.2.2.2.1] at hal
    unfold raV at hal
    by_cases hok : aOk p v (8 * (n + 4)) (8 * (n + 4) + 6) = true
    · rw [if_pos hok] at hres
      simp only [if_pos hok] at hal
      rw [HC.out.2.2.2.2.1] at hal
      have HAL := Aside0.mk hal
      have HRES := Aside0.mk hres
      clear hal hres hok
      go_wp2_with fail
      refine HAL.out.mono ?_
      rintro e w7 ⟨g7, c7, rfl, hR7, hc7, hB7⟩
      obtain ⟨A7, c7', e7, hc7', hC7⟩ := Kd.R_reads hR7
      rw [ints_len, mapL_len] at e7 hC7
      injection e7 with e7a e7b e7c
      subst e7a e7c
      have hC7p := C_part (m := 8 * (n + 4)) hC7 (mapL_len _ _) (by have := HC.out.2.2.2.2.1; omega)
      rw [mapL_take _ _ _ (by have := HC.out.2.2.2.2.1; omega)] at hC7p
      have hby := RBytes_any (mapL (aB p v) (8 * (n + 4))) (mapL_bits (aB_le p v) _) (some ⟨g7, 0, none⟩) (8 * (n + 4)) c7 w7 (mapL_len _ _) hC7p (by have := HC.out.1; omega)
      have HY2 := Aside0.mk (And.intro hby hB7)
      clear hby hR7 hC7 hc7 hc7' hB7 hC7p
      go_wp2_with fail
      refine HY2.out.1.mono ?_
      rintro e w8 ⟨u8, rfl, hR8, hB8⟩
      obtain ⟨g8, c8, rfl, hc8, hC8, hg8⟩ := R_at (n := n + 4) hR8 (by rw [bytesB_len, mapL_len]; omega) (by omega)
      have hop := ROpen_any (bytesB (mapL (aB p v) (8 * (n + 4)))) (bytesB_lt (mapL_bits (aB_le p v) _)) g8 0 (n + 4) c8 w8 (by rw [bytesB_len, mapL_len]; omega) hC8 (by have := HC.out.1; omega) hc8 n rfl
      obtain ⟨r2, hr2⟩ : ∃ r2, openB (bytesB (mapL (aB p v) (8 * (n + 4)))) = r2 := ⟨_, rfl⟩
      unfold ropenV at hop
      rw [hr2] at hop
      have hB68 : Below w6.heap.size w6 w8 := HY2.out.2.trans (hB8.mono HY2.out.2.size)
      have HO2 := Aside0.mk (And.intro hop (And.intro hr2 (And.intro hB68 (And.intro hC8 (Nat.le_trans HY2.out.2.size hg8)))))
      clear hop hr2 hR8 hB8 hC8 hg8 hB68
      go_wp2_with fail
      refine HO2.out.1.mono ?_
      rintro e w9 ⟨he9, hB9⟩
      have hB69 : Below w6.heap.size w6 w9 := HO2.out.2.2.1.trans (hB9.mono HO2.out.2.2.1.size)
      have hB39 : Below w3.heap.size w3 w9 := H6.out.2.1.trans (hB69.mono H6.out.2.1.size)
      have hP9 := H3.out.1.below hB39
      have f9 : w9.frozen? ⟨pb, 3, none⟩ = false := blk_frozen hP9.blk 3
      have c9 : w9.cell? ⟨pb, 3, none⟩ = some (.bool false) := blk_cell hP9.blk 3
      have hres2 := HRES.out.trans HO2.out.2.1
      have H9 := Aside0.mk (And.intro (Kd.C_below HO2.out.2.2.2.1 hB9) (And.intro hB39 (And.intro hP9 hres2)))
      clear hB9 hB69 hB39 hP9 hres2
      cases r2 with
      | some m2 =>
        simp only [Option.isSome_some, if_true] at he9
        subst he9
        go_wp2
        go_ret2
        have htk := openB_take HO2.out.2.1
        have hlb : (bytesB (mapL (aB p v) (8 * (n + 4)))).length = n + 4 := by rw [bytesB_len, mapL_len]; omega
        rw [hlb, show n + 4 - 4 = n by omega] at htk
        have hCm := C_part (m := n) H9.out.1 hlb (by omega)
        rw [← htk.1] at hCm
        have hpb3 := blk_lt H3.out.1.blk
        have hs36 := H6.out.2.1.size
        exact doc_done HP.out.2.1 H3.out.2.2.2.2 H9.out.2.2.2 H3.out.2.1 H9.out.2.1 H9.out.2.2.1 hCm (fun ad had h => by
          injection had with had
          subst had
          have h1 := HO2.out.2.2.2.2
          simp only at h
          omega) HSEP.out rfl
      | none =>
        simp only [Option.isSome_none, if_false, Bool.false_eq_true, ↓reduceIte] at he9
        subst he9
        go_wp2
        go_ret2
        exact doc_none HP.out.2.1 H3.out.2.2.2.2 H9.out.2.2.2 H3.out.2.1 H9.out.2.1 H9.out.2.2.1 HSEP.out rfl
    · rw [if_neg hok] at hres
      simp only [if_neg hok] at hal
      rw [HC.out.2.2.2.2.1] at hal
      have HAL := Aside0.mk hal
      have HRES := Aside0.mk hres
      clear hal hres hok
      go_wp2_with (first
        | (go_at_call 43; refine HAL.out.mono ?_; rintro e w7 ⟨g7, c7, rfl, hR7, hc7, hB7⟩; have H7 := Aside0.mk hB7; clear hR7 hB7 hc7))
      go_ret2
      exact doc_none HP.out.2.1 H3.out.2.2.2.2 HRES.out H3.out.2.1 (H6.out.2.1.trans (H7.out.mono H6.out.2.1.size)) (H6.out.2.2.below H7.out) HSEP.out rfl
set_option maxHeartbeats 3200000 in
set_option maxRecDepth 100000 in
theorem doc_full (pb b sb n N came : Nat) (xs : List Int) (cs : Nat → Nat) (v : Nat) (hv : v < 4) (p : List Nat) (hp : Bits p) (hpl : p.length = 8 * (n + 4) + 6) (A : Option Addr) (L c : Nat) (hL : 8 * (n + 4) + 6 = L) (hLc : L ≤ c) (W : World)
    (hI : IsD W pb b sb N xs cs came false) (hcm : n = N ∧ came = 16) (hle : n ≤ 64) (hC : (Kd.int .u8).C W A L (ints p)) (hA : ∀ ad, A = some ad → ¬ PS3 pb b sb ad.block)
    (xs1 : List Int) (cs1 : Nat → Nat) (c1 : Nat) (hx1 : List.replicate (4 * (8 * (n + 4) + 6)) (0 : Int) = xs1) (hcs1 : (fun _ => 0) = cs1) (hc1 : (0 : Nat) = c1) :
    Calls Tryd.prog 20 #[.pointer (some ⟨pb, 0, none⟩), .int .i64 (n : Int), .int .i64 (v : Int), .slice A L c] W (DocPost W pb b sb n v p xs1 cs1 c1) := by
  obtain ⟨rfl, hc16⟩ := hcm
  have hcm := hc16
  subst hc16
  have hrt := Right1_any (ints p) A L c W hC (by omega)
  rw [show (!decide (∃ x ∈ ints p, 1 < x)) = true by
    rw [Bool.not_eq_true', decide_eq_false_iff_not]
    rintro ⟨x, hx, h1⟩
    obtain ⟨y, hy, rfl⟩ := List.mem_map.1 hx
    have := hp y hy
    omega] at hrt
  have hbi := fun W => RBits_any n (by omega) W
  rw [hL] at hbi
  have c3 : W.cell? ⟨pb, 3, none⟩ = some (.bool false) := blk_cell hI.blk 3
  have hnew := New13_any (8 * (n + 4)) (by omega)
  obtain ⟨M, hM⟩ : ∃ M, 8 * (n + 4) = M := ⟨_, rfl⟩
  rw [hM] at hnew
  have hm : 8 * ((n : Int) + 4) = (M : Int) := by omega
  have hnb : (n : Int) ≤ 64 := by omega
  have HC := Aside0.mk (And.intro hle (And.intro hv (And.intro hp (And.intro hpl (And.intro hL (And.intro hLc (And.intro hrt (And.intro hI (And.intro hC (And.intro hx1 (And.intro hA hbi)))))))))))
  have HQ := Aside0.mk (And.intro hcs1 (And.intro hc1 (And.intro hnew hM)))
  have hn0 : ¬ (n : Int) < 0 := by omega
  have hn64 : ¬ (64 : Int) < (n : Int) := by omega
  have hv0 : ¬ (v : Int) < 0 := by omega
  have hv3 : ¬ (3 : Int) < (v : Int) := by omega
  clear hle hv hp hpl hLc hrt hbi hI hC hA hcm hL hx1 hcs1 hc1 hnew hM
  go_enter Tryd.func20, Tryd.ntmps20
  go_wp2_with fail
  refine HC.out.2.2.2.2.2.2.1.mono ?_
  rintro e W0 ⟨rfl, q0, hq0⟩
  have hB0 : Below W.heap.size W W0 := by rw [hq0]; exact pw_below_drewN (Below.refl _ _) q0
  clear hq0
  have hI0 := HC.out.2.2.2.2.2.2.2.1.below hB0
  have k0 : W0.cell? ⟨pb, 0, none⟩ = some (.int .i64 (n : Int)) := blk_cell hI0.blk 0
  have k2 : W0.cell? ⟨pb, 2, none⟩ = some (.int .i64 16) := blk_cell hI0.blk 2
  have H0 := Aside0.mk (And.intro hB0 hI0)
  clear hB0 hI0
  go_wp2_with fail
  refine (HC.out.2.2.2.2.2.2.2.2.2.2.2 _).mono ?_
  rintro e w9 ⟨rfl, rfl⟩
  go_wp2_with fail
  refine (HQ.out.2.2.1 _).mono ?_
  rintro e w8 ⟨rfl, hI8, hB8⟩
  rw [← HQ.out.2.2.2, HC.out.2.2.2.2.2.2.2.2.2.1, HQ.out.1] at hI8
  have hbk := below_cell_blk hB8 H0.out.2.blk
  have f0 := blk_frozen hbk 0
  have f1 := blk_frozen hbk 1
  have f2 := blk_frozen hbk 2
  have g0 := blk_cell hbk 0
  have g1 := blk_cell hbk 1
  have g2 := blk_cell hbk 2
  simp at g0 g1 g2
  obtain ⟨b1, hb1⟩ : ∃ b1, W0.heap.size + 1 = b1 := ⟨_, rfl⟩
  obtain ⟨sb1, hsb1⟩ : ∃ sb1, W0.heap.size = sb1 := ⟨_, rfl⟩
  rw [hb1, hsb1] at hI8
  rw [hb1]
  have hHP := doc_begin H0.out.1 HC.out.2.2.2.2.2.2.2.1 HC.out.1 HC.out.2.2.2.2.2.2.2.2.1 (by have := HC.out.2.2.2.2.1; omega) HC.out.2.2.2.2.2.2.2.2.2.2.1 hb1 hsb1 HC.out.2.2.2.2.2.2.2.2.2.1 HQ.out.1 HQ.out.2.1 hI8 hB8
  have HSEP := Aside0.mk (show SepB W b sb b1 sb1 from by have := H0.out.1.size; unfold SepB; omega)
  have M1 := blk_cell hHP.1.blk 1
  simp only [List.getElem?_toArray, List.getElem?_cons_zero, List.getElem?_cons_succ] at M1
  have HP0 := Aside0.mk hHP
  clear hI8 hB8 hbk hb1 hsb1 hHP k0 k2
  go_wp2_with fail
  obtain ⟨W1, hW1⟩ : ∃ W1, (((w8.setCell ⟨pb, 0, none⟩ (.int .i64 (n : Int))).setCell ⟨pb, 1, none⟩ (.pointer (some ⟨b1, 0, none⟩))).setCell ⟨pb, 2, none⟩ (.int .i64 0)) = W1 := ⟨_, rfl⟩
  have hHP := HP0.out
  rw [hW1] at hHP M1 ⊢
  have HP := Aside0.mk hHP
  clear hHP HP0 hW1 f0 f1 f2 g0 g1 g2 M1
  have M1 : W1.cell? ⟨pb, 1, none⟩ = some (.pointer (some ⟨b1, 0, none⟩)) := blk_cell HP.out.1.blk 1
  have hadd := DocAdd_any W1 b1 sb1 (8 * (n + 4)) xs1 cs1 HP.out.1.buf v HC.out.2.1 (Nat.le_trans (HP.out.1.cnt v) (by have := HP.out.1.few; omega)) p A c (by rw [HC.out.2.2.2.2.1]; exact HP.out.2.2.1) HC.out.2.2.2.1
  rw [HC.out.2.2.2.2.1] at hadd
  have HA := Aside0.mk hadd
  clear hadd
  refine HA.out.mono ?_
  rintro e w2 ⟨rfl, hI2, hC2⟩
  rw [← HC.out.2.2.2.2.1] at hI2
  have hne := HP.out.1.ne
  have hbk2 := hC2.keeps HP.out.1.blk (by show ¬ (pb = b1 ∨ pb = sb1); exact fun h => h.elim hne.1 hne.2)
  have c2 : w2.cell? ⟨pb, 2, none⟩ = some (.int .i64 (c1 : Nat)) := blk_cell hbk2 2
  have f2 : w2.frozen? ⟨pb, 2, none⟩ = false := blk_frozen hbk2 2
  have hS3 : Chg (PS3 pb b1 sb1) W1 (w2.setCell ⟨pb, 2, none⟩ (.int .i64 ((c1 : Nat) + 1))) := (hC2.mono (fun k hk => .inr hk)).set_ (fun _ => .inl rfl) _
  have hP3 : IsD (w2.setCell ⟨pb, 2, none⟩ (.int .i64 ((c1 : Nat) + 1))) pb b1 sb1 n (addv xs1 v p (8 * (n + 4) + 6)) (bump cs1 v) (c1 + 1) false :=
    by
      rw [show ((c1 : Nat) : Int) + 1 = ((c1 + 1 : Nat) : Int) from by omega]
      exact ⟨blk_set hbk2 2 _, hI2.chg (Chg.set_ (S := fun k => k = pb) (Chg.refl _ _) (p := ⟨pb, 2, none⟩) (fun _ => rfl) _) (fun h => hne.1 h.symm) (fun h => hne.2 h.symm), HP.out.1.le, by have := HP.out.2.2.2.2.1; omega, fun z => by have h1 := HP.out.1.cnt z; have h2 := HP.out.1.cnt v; unfold bump; split <;> omega⟩
  have hC3 := C_chg HP.out.2.2.1 hS3 HP.out.2.2.2.2.2
  have hb3 : ∀ x ∈ addv xs1 v p (8 * (n + 4) + 6), -31 ≤ x ∧ x ≤ 31 := addv_in _ _ _ HP.out.2.2.2.1 _
  obtain ⟨X, hX⟩ : ∃ X, addv xs1 v p (8 * (n + 4) + 6) = X := ⟨_, rfl⟩
  rw [hX] at hP3 hb3
  have hcb : (c1 : Int) < 16 := by have := HP.out.2.2.2.2.1; omega
  have M2 : (w2.setCell ⟨pb, 2, none⟩ (.int .i64 ((c1 : Int) + 1))).cell? ⟨pb, 1, none⟩ = some (.pointer (some ⟨b1, 0, none⟩)) := blk_cell hP3.blk 1
  have M3 : (w2.setCell ⟨pb, 2, none⟩ (.int .i64 ((c1 : Int) + 1))).cell? ⟨b1, 1, none⟩ = some (.slice (some ⟨sb1, 0, none⟩) (4 * (8 * (n + 4) + 6)) (4 * (8 * (n + 4) + 6))) := blk_cell hP3.buf.blk 1
  have H3 := Aside0.mk (And.intro hP3 (And.intro hS3 (And.intro hC3 (And.intro hb3 hX))))
  clear hI2 hC2 hbk2 hS3 hP3 hC3 hb3 hX hne
  go_wp2_with (fail)
  obtain ⟨w3, hw3⟩ : ∃ w3, w2.setCell ⟨pb, 2, none⟩ (.int .i64 ((c1 : Int) + 1)) = w3 := ⟨_, rfl⟩
  rw [hw3] at H3 M2 M3 ⊢
  obtain ⟨hP3, hS3, hC3, hb3, hX⟩ := H3.out
  have hlenX := hP3.buf.len
  have hdec := Decode9_any X (8 * (n + 4)) (by have := HC.out.1; omega) hlenX hb3 (some ⟨sb1, 0, none⟩) (4 * (8 * (n + 4) + 6)) w3 (by rw [hlenX]; exact hP3.buf.C) (by omega)
  rw [hlenX] at hdec
  have HD := Aside0.mk hdec
  clear hw3 M1 M2 M3 c2 f2 hdec hP3 hS3 hC3 hb3 hX hlenX
  refine HD.out.mono ?_
  rintro e w4 ⟨u4, rfl, hR4, hB4⟩
  have hR4 : (Kd.int .u8).R 5 w4 w3.heap.size (fun _ => True) u4 (ints (hDec (8 * (n + 4)) X)) := hR4
  obtain ⟨A4, c4, rfl, hc4, hC4⟩ := Kd.R_reads hR4
  rw [ints_len, hDec_len] at hc4 hC4 ⊢
  have hby := RBytes_any (hDec (8 * (n + 4)) X) (hDec_bits _ _) A4 (8 * (n + 4)) c4 w4 (hDec_len _ _) hC4 (by have := HC.out.1; omega)
  have HY := Aside0.mk (And.intro hby hB4)
  clear hby hR4 hC4 hc4 hB4
  go_wp2_with fail
  refine HY.out.1.mono ?_
  rintro e w5 ⟨u5, rfl, hR5, hB5⟩
  obtain ⟨g5, c5, rfl, hc5, hC5, hg5⟩ := R_at (n := n + 4) hR5 (by rw [bytesB_len, hDec_len]; omega) (by omega)
  have hop := ROpen_any (bytesB (hDec (8 * (n + 4)) X)) (bytesB_lt (hDec_bits _ _)) g5 0 (n + 4) c5 w5 (by rw [bytesB_len, hDec_len]; omega) hC5 (by have := HC.out.1; omega) hc5 n rfl
  obtain ⟨r1, hr1⟩ : ∃ r1, openB (bytesB (hDec (8 * (n + 4)) X)) = r1 := ⟨_, rfl⟩
  unfold ropenV at hop
  rw [hr1] at hop
  have hB35 : Below w3.heap.size w3 w5 := HY.out.2.trans (hB5.mono HY.out.2.size)
  have HO := Aside0.mk (And.intro hop (And.intro hr1 (And.intro hB35 (And.intro hC5 (Nat.le_trans HY.out.2.size hg5)))))
  clear hop hr1 hR5 hB5 hC5 hg5 hB35
  go_wp2_with fail
  refine HO.out.1.mono ?_
  rintro e w6 ⟨he6, hB6⟩
  have hB36 : Below w3.heap.size w3 w6 := HO.out.2.2.1.trans (hB6.mono HO.out.2.2.1.size)
  have hP6 := H3.out.1.below hB36
  have f6 : w6.frozen? ⟨pb, 3, none⟩ = false := blk_frozen hP6.blk 3
  have c6 : w6.cell? ⟨pb, 3, none⟩ = some (.bool false) := blk_cell hP6.blk 3
  have H6 := Aside0.mk (And.intro (Kd.C_below HO.out.2.2.2.1 hB6) (And.intro hB36 hP6))
  clear hB6 hB36 hP6
  cases r1 with
  | some m1 =>
    simp only [Option.isSome_some, if_true] at he6
    subst he6
    have hres : hRes (8 * (n + 4)) v p X = some m1 := hRes_dec HO.out.2.1
    have HRES := Aside0.mk hres
    clear hres
    go_wp2
    go_ret2
    have htk := openB_take HO.out.2.1
    have hlb : (bytesB (hDec (8 * (n + 4)) X)).length = n + 4 := by rw [bytesB_len, hDec_len]; omega
    rw [hlb, show n + 4 - 4 = n by omega] at htk
    have hCm := C_part (m := n) H6.out.1 hlb (by omega)
    rw [← htk.1] at hCm
    have hpb3 := blk_lt H3.out.1.blk
    exact doc_done HP.out.2.1 H3.out.2.2.2.2 HRES.out H3.out.2.1 H6.out.2.1 H6.out.2.2 hCm (fun ad had h => by
      injection had with had
      subst had
      have h1 := HO.out.2.2.2.2
      simp only at h
      omega) HSEP.out rfl
  | none =>
    simp only [Option.isSome_none, if_false, Bool.false_eq_true, ↓reduceIte] at he6
    subst he6
    have hres := hRes_alone (v := v) (p := p) HO.out.2.1
    have hal := RAlone_any p HC.out.2.2.1 v HC.out.2.1 A L c (8 * (n + 4)) w6 (by rw [HC.out.2.2.2.1]; exact HC.out.2.2.2.2.1) HC.out.2.2.2.2.1.symm (Kd.C_below H3.out.2.2.1 H6.out.2.1) (by have := HC.out.1; have := HC.out.2.2.2.2.1; omega)
    rw [← HC.out.2.2.2.2.1] at hal
    unfold raV at hal
    by_cases hok : aOk p v (8 * (n + 4)) (8 * (n + 4) + 6) = true
    · rw [if_pos hok] at hres
      simp only [if_pos hok] at hal
      rw [HC.out.2.2.2.2.1] at hal
      have HAL := Aside0.mk hal
      have HRES := Aside0.mk hres
      clear hal hres hok
      go_wp2_with fail
      refine HAL.out.mono ?_
      rintro e w7 ⟨g7, c7, rfl, hR7, hc7, hB7⟩
      obtain ⟨A7, c7', e7, hc7', hC7⟩ := Kd.R_reads hR7
      rw [ints_len, mapL_len] at e7 hC7
      injection e7 with e7a e7b e7c
      subst e7a e7c
      have hC7p := C_part (m := 8 * (n + 4)) hC7 (mapL_len _ _) (by have := HC.out.2.2.2.2.1; omega)
      rw [mapL_take _ _ _ (by have := HC.out.2.2.2.2.1; omega)] at hC7p
      have hby := RBytes_any (mapL (aB p v) (8 * (n + 4))) (mapL_bits (aB_le p v) _) (some ⟨g7, 0, none⟩) (8 * (n + 4)) c7 w7 (mapL_len _ _) hC7p (by have := HC.out.1; omega)
      have HY2 := Aside0.mk (And.intro hby hB7)
      clear hby hR7 hC7 hc7 hc7' hB7 hC7p
      go_wp2_with fail
      refine HY2.out.1.mono ?_
      rintro e w8 ⟨u8, rfl, hR8, hB8⟩
      obtain ⟨g8, c8, rfl, hc8, hC8, hg8⟩ := R_at (n := n + 4) hR8 (by rw [bytesB_len, mapL_len]; omega) (by omega)
      have hop := ROpen_any (bytesB (mapL (aB p v) (8 * (n + 4)))) (bytesB_lt (mapL_bits (aB_le p v) _)) g8 0 (n + 4) c8 w8 (by rw [bytesB_len, mapL_len]; omega) hC8 (by have := HC.out.1; omega) hc8 n rfl
      obtain ⟨r2, hr2⟩ : ∃ r2, openB (bytesB (mapL (aB p v) (8 * (n + 4)))) = r2 := ⟨_, rfl⟩
      unfold ropenV at hop
      rw [hr2] at hop
      have hB68 : Below w6.heap.size w6 w8 := HY2.out.2.trans (hB8.mono HY2.out.2.size)
      have HO2 := Aside0.mk (And.intro hop (And.intro hr2 (And.intro hB68 (And.intro hC8 (Nat.le_trans HY2.out.2.size hg8)))))
      clear hop hr2 hR8 hB8 hC8 hg8 hB68
      go_wp2_with fail
      refine HO2.out.1.mono ?_
      rintro e w9 ⟨he9, hB9⟩
      have hB69 : Below w6.heap.size w6 w9 := HO2.out.2.2.1.trans (hB9.mono HO2.out.2.2.1.size)
      have hB39 : Below w3.heap.size w3 w9 := H6.out.2.1.trans (hB69.mono H6.out.2.1.size)
      have hP9 := H3.out.1.below hB39
      have f9 : w9.frozen? ⟨pb, 3, none⟩ = false := blk_frozen hP9.blk 3
      have c9 : w9.cell? ⟨pb, 3, none⟩ = some (.bool false) := blk_cell hP9.blk 3
      have hres2 := HRES.out.trans HO2.out.2.1
      have H9 := Aside0.mk (And.intro (Kd.C_below HO2.out.2.2.2.1 hB9) (And.intro hB39 (And.intro hP9 hres2)))
      clear hB9 hB69 hB39 hP9 hres2
      cases r2 with
      | some m2 =>
        simp only [Option.isSome_some, if_true] at he9
        subst he9
        go_wp2
        go_ret2
        have htk := openB_take HO2.out.2.1
        have hlb : (bytesB (mapL (aB p v) (8 * (n + 4)))).length = n + 4 := by rw [bytesB_len, mapL_len]; omega
        rw [hlb, show n + 4 - 4 = n by omega] at htk
        have hCm := C_part (m := n) H9.out.1 hlb (by omega)
        rw [← htk.1] at hCm
        have hpb3 := blk_lt H3.out.1.blk
        have hs36 := H6.out.2.1.size
        exact doc_done HP.out.2.1 H3.out.2.2.2.2 H9.out.2.2.2 H3.out.2.1 H9.out.2.1 H9.out.2.2.1 hCm (fun ad had h => by
          injection had with had
          subst had
          have h1 := HO2.out.2.2.2.2
          simp only at h
          omega) HSEP.out rfl
      | none =>
        simp only [Option.isSome_none, if_false, Bool.false_eq_true, ↓reduceIte] at he9
        subst he9
        go_wp2
        go_ret2
        exact doc_none HP.out.2.1 H3.out.2.2.2.2 H9.out.2.2.2 H3.out.2.1 H9.out.2.1 H9.out.2.2.1 HSEP.out rfl
    · rw [if_neg hok] at hres
      simp only [if_neg hok] at hal
      rw [HC.out.2.2.2.2.1] at hal
      have HAL := Aside0.mk hal
      have HRES := Aside0.mk hres
      clear hal hres hok
      go_wp2_with (first
        | (go_at_call 43; refine HAL.out.mono ?_; rintro e w7 ⟨g7, c7, rfl, hR7, hc7, hB7⟩; have H7 := Aside0.mk hB7; clear hR7 hB7 hc7))
      go_ret2
      exact doc_none HP.out.2.1 H3.out.2.2.2.2 HRES.out H3.out.2.1 (H6.out.2.1.trans (H7.out.mono H6.out.2.1.size)) (H6.out.2.2.below H7.out) HSEP.out rfl
theorem Doc_all (pb b sb n N came : Nat) (xs : List Int) (cs : Nat → Nat) (v : Nat) (hv : v < 4) (p : List Nat) (hp : Bits p) (L : Nat) (hL : 8 * (n + 4) + 6 = L) (hpl : p.length = L) (A : Option Addr) (c : Nat) (hLc : L ≤ c) (W : World)
    (hI : IsD W pb b sb N xs cs came false) (hle : n ≤ 64) (hin : ∀ x ∈ xs, -31 ≤ x ∧ x ≤ 31) (hC : (Kd.int .u8).C W A L (ints p)) (hA : ∀ ad, A = some ad → ¬ PS3 pb b sb ad.block) :
    Calls Tryd.prog 20 #[.pointer (some ⟨pb, 0, none⟩), .int .i64 (n : Int), .int .i64 (v : Int), .slice A L c] W (DocPost W pb b sb n v p (offX n N came xs) (offS n N came cs) (offN n N came)) := by
  by_cases h : n = N ∧ came < 16
  · obtain ⟨rfl, hc⟩ := h
    unfold offX offS offN
    rw [if_pos ⟨rfl, hc⟩, if_pos ⟨rfl, hc⟩, if_pos ⟨rfl, hc⟩]
    exact doc_same pb b sb n came xs cs v hv p hp (by omega) A L c hL hLc W hI hc hin hC hA
  · unfold offX offS offN
    rw [if_neg h, if_neg h, if_neg h]
    by_cases hn : n = N
    · exact doc_full pb b sb n N came xs cs v hv p hp (by omega) A L c hL hLc W hI ⟨hn, by have := hI.few; omega⟩ hle hC hA _ _ _ rfl rfl rfl
    · exact doc_other pb b sb n N came xs cs v hv p hp (by omega) A L c hL hLc W hI hn hle hC hA _ _ _ rfl rfl rfl
end Go.Proofs.YtnejnnfjbhpigaaDoor.Vit
