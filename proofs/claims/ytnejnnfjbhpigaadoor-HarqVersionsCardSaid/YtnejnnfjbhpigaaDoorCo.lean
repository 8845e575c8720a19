/- The document's Alone: each theorem says its own conditions. -/
import Derived.Test.YtnejnnfjbhpigaaDoorCm
namespace Go.Proofs.YtnejnnfjbhpigaaDoor.Vit
open Go.RowKit Go.Proofs.YtnejnnfjbhpigaaDoorW.PrintWords Go.Proofs.YtnejnnfjbhpigaaDoorW.PrintLast Go.Proofs.YtnejnnfjbhpigaaDoorW.PrintMore Go.Proofs.YtnejnnfjbhpigaaDoor.Mem Go.Proofs.YtnejnnfjbhpigaaDoor.Crc
attribute [local go_sem] max2_int min2_int max_two min_two max_three min_three max_four min_four   -- for this text's walks alone
set_option linter.unusedVariables false
set_option linter.unusedSimpArgs false

open Go.Proofs.YtnejnnfjbhpigaaDoor.Chk
theorem bitAt_mapL (f : Nat → Nat) (t k : Nat) (hk : 1 ≤ k) (i : Nat) (hi : i ≤ t) : bitAt (mapL f t ++ [0]) i k = if k ≤ i then f (i - k) else 0 := by
  unfold bitAt
  by_cases h : k ≤ i
  · rw [if_pos h, if_pos h]
    have hlt : i - k < t := by omega
    rw [List.getD_eq_getElem?_getD, List.getElem?_append_left (by rw [mapL_len]; exact hlt), ← List.getD_eq_getElem?_getD, mapL_get f hlt]
  · rw [if_neg h, if_neg h]
theorem mapL_snoc0 {f : Nat → Nat} (hf : ∀ j, f j ≤ 1) (t : Nat) : Bits (mapL f t ++ [0]) := fun x hx => by
  rcases List.mem_append.1 hx with h | h
  · exact mapL_bits hf t x h
  · have := List.mem_singleton.1 h
    omega
theorem stt_mapL (p : List Nat) (v t : Nat) : ∀ i, i ≤ t → stt (mapL (aB p v) t ++ [0]) i = aS p v i
  | 0, _ => by rw [stt_zero]; rfl
  | i + 1, h => by
    have hb : bitAt (mapL (aB p v) t ++ [0]) i 0 = aB p v i := by
      unfold bitAt
      rw [if_pos (Nat.zero_le _), Nat.sub_zero, List.getD_eq_getElem?_getD, List.getElem?_append_left (by rw [mapL_len]; omega), ← List.getD_eq_getElem?_getD, mapL_get _ (by omega)]
    rw [stt_next (mapL_snoc0 (aB_le p v) t), stt_mapL p v t i (by omega), hb, aS_next]
theorem bitv_alone (p : List Nat) (v t j : Nat) (hj : j < 4) : bitv (mapL (aB p v) t ++ [0]) t j 7 = ob (aS p v t) j := by
  rw [bitv_ob (mapL_snoc0 (aB_le p v) t) t j hj, stt_mapL p v t t (Nat.le_refl _)]
  have hb : bitAt (mapL (aB p v) t ++ [0]) t 0 = 0 := by
    unfold bitAt
    rw [if_pos (Nat.zero_le _), Nat.sub_zero, List.getD_eq_getElem?_getD, List.getElem?_append_right (by rw [mapL_len]; exact Nat.le_refl _), mapL_len, Nat.sub_self]
    rfl
  rw [hb]
  congr 1
theorem two_bits {a b : Nat} (ha : a ≤ 1) (hb : b ≤ 1) : (a + b) % 2 = if a = b then 0 else 1 := by split <;> omega
/-- What the document hands back of a version alone. -/
def raV (p : List Nat) (v m n g cp : Nat) : Value := if aOk p v m n = true then .tuple #[.slice (some ⟨g, 0, none⟩) m cp, .bool true] else .tuple #[.slice none 0 0, .bool false]
theorem made_second (w : World) : (Kd.int .u8).R 5 ((w.alloc (.cells #[.int .u8 0] 5)).alloc (.cells #[] 5)).drew w.heap.size (fun k => w.heap.size ≤ k) (.slice (some ⟨w.heap.size + 1, 0, none⟩) 0 0) [] := by
  have h := World.ownsRow_made (w.alloc (.cells #[.int .u8 0] 5)) #[] 0 (base := w.heap.size) (e := 5) (size := 1) (by simp) (Nat.zero_le _) rfl
  rw [World.size_alloc] at h
  have h2 : (Kd.int .u8).R 5 ((w.alloc (.cells #[.int .u8 0] 5)).alloc (.cells #[] 5)) w.heap.size (fun k => w.heap.size ≤ k) (.slice (some ⟨w.heap.size + 1, 0, none⟩) 0 0) [] := Kd.R_of_own h (fun k hk => by simp [Value.ownBlock] at hk; omega)
  exact Kd.R_below h2 (below_drew (Below.refl _ _))
theorem news_one {w : World} {g : Nat} {x : Value} (h : w.cell? ⟨g, 0, none⟩ = some x) : ∀ j u, [x][j]? = some u → w.cell? ((⟨g, 0, none⟩ : Addr).add j) = some u := fun j u hu => by
  match j, hu with
  | 0, hu =>
    obtain rfl : x = u := by simpa using hu
    rw [addO]
    exact h
  | j + 1, hu => simp at hu
theorem aOk_yes {p : List Nat} {v m n : Nat} (h : ∀ j, m ≤ j → j < n → aB p v j = 0) : aOk p v m n = true := by
  unfold aOk
  rw [decide_eq_true_iff, wgtL_zero]
  intro x hx
  obtain ⟨i, hi, rfl⟩ := List.mem_iff_getElem.1 hx
  rw [List.length_drop, mapL_len] at hi
  have e : ((mapL (aB p v) n).drop m)[i]? = some (aB p v (m + i)) := by
    rw [List.getElem?_drop]
    simp [mapL, show m + i < n by omega]
  rw [List.getElem?_eq_getElem (by rw [List.length_drop, mapL_len]; exact hi)] at e
  rw [Option.some.inj e]
  exact h _ (by omega) (by omega)
theorem aOk_no {p : List Nat} {v m n j : Nat} (h1 : m ≤ j) (h2 : j < n) (h : ¬ aB p v j = 0) : ¬ aOk p v m n = true := by
  unfold aOk
  rw [decide_eq_true_iff, wgtL_zero]
  intro hx
  refine h (hx _ ?_)
  apply List.mem_of_getElem? (i := j - m)
  rw [List.getElem?_drop, show m + (j - m) = j by omega]
  simp [mapL, h2]
set_option maxHeartbeats 3200000 in
set_option maxRecDepth 100000 in
theorem RAlone_any (p : List Nat) (hp : Bits p) (v : Nat) (hv : v < 4) (A : Option Addr) (n c m : Nat) (w : World) (hn : p.length = n) (hm : n = m + 6) (hC : (Kd.int .u8).C w A n (ints p)) (hl : n ≤ 10000) :
    Calls Tryd.prog 43 #[.slice A n c, .int .i64 (v : Int)] w fun e w' => ∃ g cp, e = .returned (raV p v m n g cp) ∧ (Kd.int .u8).R 5 w' w.heap.size (fun k => w.heap.size ≤ k) (.slice (some ⟨g, 0, none⟩) n cp) (ints (mapL (aB p v) n)) ∧ n ≤ cp ∧ Below w.heap.size w w' := by
  have HC := Aside0.mk (And.intro hC (And.intro hn (And.intro hp hm)))
  have hnm : (n : Int) - 6 = (m : Int) := by omega
  clear hC hn hp hm
  go_enter Tryd.func43, Tryd.ntmps43
  go_wp2
  go_loopw [6, 7, 8] (fun x6 x7 _ wr => ∃ t : Nat, x7 = .int .i64 t ∧ t ≤ n ∧ (Kd.int .u8).R 5 wr w.heap.size (fun k => w.heap.size ≤ k) x6 (ints (mapL (aB p v) t)) ∧ Below w.heap.size w wr) (fun _ x7 _ _ => n - (intOf x7).toNat)
  case atStart => exact ⟨0, rfl, Nat.zero_le _, Kd.R_nil _ _ _ _ _, Below.refl _ _⟩
  case round =>
    obtain ⟨t, rfl, htn, hR, hB⟩ := hrel
    by_cases htl : t < n
    · have hlt : (t : Int) < (n : Int) := by omega
      have htp : t < p.length := by have := HC.out.2.1; omega
      obtain ⟨ad, hA, hcell⟩ := Kd.at_int (Kd.C_below HC.out.1 hB) (t : Int) (by omega) hlt
      cases hA
      rw [rd_ints htp, Int.toNat_natCast] at hcell
      have hg1 : p[t] ≤ 1 := HC.out.2.2.1 _ (List.getElem_mem htp)
      have hgd : p.getD t 0 = p[t] := by rw [List.getD_eq_getElem?_getD, List.getElem?_eq_getElem htp]; rfl
      have hbt : aB p v t = (ob (aS p v t) (strm v t) + p[t]) % 2 := by unfold aB aT; rw [hgd]
      have hnx := mapL_next (aB p v) t
      have hst := fun W => Stream10_any v t hv W
      have hbv := bitv_alone p v t (strm v t) (strm_lt v t)
      have hob := ob_le (aS p v t) (strm v t)
      have hs4 := strm_lt v t
      have hbb := mapL_snoc0 (aB_le p v) t
      obtain ⟨A6, c6, hv6, hc6, hC6⟩ := Kd.R_reads hR
      have hLl : (mapL (aB p v) t).length = t := mapL_len _ _
      obtain ⟨L, hL⟩ : ∃ L, mapL (aB p v) t = L := ⟨_, rfl⟩
      rw [hL] at hbv hnx hC6 hLl hbb hR hv6
      rw [ints_len, hLl] at hC6 hv6
      subst hv6
      obtain ⟨g, hg⟩ : ∃ g, p[t] = g := ⟨_, rfl⟩
      obtain ⟨s, hs⟩ : ∃ s, strm v t = s := ⟨_, rfl⟩
      obtain ⟨o, ho⟩ : ∃ o, ob (aS p v t) s = o := ⟨_, rfl⟩
      obtain ⟨y, hy⟩ : ∃ y, aB p v t = y := ⟨_, rfl⟩
      rw [hg] at hcell hg1 hbt
      rw [hs] at hbt hst hbv hob hs4
      rw [ho] at hbt hbv hob
      rw [hy] at hbt hnx
      rw [two_bits hob hg1] at hbt
      have HR := Aside0.mk (And.intro hR (And.intro hB (And.intro hC6 (And.intro hst (And.intro hbv (And.intro hbb (And.intro hLl (And.intro hnx (And.intro hs4 hL)))))))))
      have HCL := Aside0.mk hcell
      clear hR hB hC6 hst hbv hbb hLl hnx hs4 hL hgd hg hs ho hy
      have hcella : ∀ o, (wr.alloc o).cell? (ad.add t) = some (.int .u8 (g : Int)) := fun o => Lib.cell?_alloc_some _ hcell
      have hcellb : ∀ o o', ((wr.alloc o).alloc o').cell? (ad.add t) = some (.int .u8 (g : Int)) := fun o o' => Lib.cell?_alloc_some _ (hcella o)
      go_upto_region 6 with fail
      go_cut [31] from 17 to 31 (fun s9 wx => s9 = .bool (decide (¬ o = g)) ∧ Below wr.heap.size wr wx)
      case first =>
        by_cases hog : o = g
        · have hgo : g = o := hog.symm
          subst hgo
          have HG := Aside0.mk (show decide (¬ g = g) = false by simp)
          clear hog
          go_region_law (first
            | (refine Kd.R_append_rows_step (Kd.int .u8) (w0 := wr) wr.heap.size (by rfl) _ _ _ _ (.int .u8 0) 1 (by rfl) Tryd.underlying22 info5 rfl (by decide) (by decide) (.slice (some ⟨wr.heap.size, 0, none⟩) 0 0) [] (ints L) A6 t c6 (fun j => wr.heap.size ≤ j) (fun _ => False) (by rfl) (by rfl) (Kd.R_below (Kd.R_of_own (World.ownsRow_made wr #[] 0 (Nat.le_refl _) (Nat.zero_le _) rfl) (fun k hk => by simp [Value.ownBlock] at hk; omega)) (below_drew (Below.refl _ _))) (Kd.C_below HR.out.2.2.1 (below_drew (below_alloc (Below.refl _ _) _))) (fun x cs h => h) (fun _ hk => hk.elim) (fun k hk => by simp at hk; omega) (below_drew (below_alloc (Below.refl _ _) _)) (by simp) (by simp; omega) ?_
               intro v7 w7 hR7 hB7 hG7 hat7
               have hcell7 := below_cell hB7 HCL.out
               have hcell7a : ∀ o, (w7.alloc o).cell? (ad.add t) = some (.int .u8 (g : Int)) := fun o => Lib.cell?_alloc_some _ hcell7
               have H8 := Aside0.mk (And.intro hR7 hB7)
               clear hR7 hB7 hG7 hat7)
            | ((refine step_append_Q (Kd.int .u8) (by rfl) _ _ _ (by rfl) wr.heap.size 5 _ 1 Tryd.underlying22 info5 rfl (by decide) (by decide) v7 ([] ++ ints L) (0 : Int) [.int .u8 0] (fun k => wr.heap.size ≤ k) (fun _ => False) (by rfl) (Kd.Q_alloc (Kd.Q_of_R H8.out.1) _) ⟨w7.heap.size, 0, none⟩ 1 (by rfl) (World.news_of_block (cs := #[.int .u8 0]) (t := 5) (fr := (0, 0)) (heap_alloc_new w7 _)) (by exact rfl) (fun k hk => hk.elim) (fun k hk => by have := H8.out.2.size; simp at hk; omega) (by have := H8.out.2.size; simp; omega) (by rw [List.nil_append, ints_len, HR.out.2.2.2.2.2.2.1]; omega) ?_)
               intro gg off cap2 w8 hq hgrow hat hlt
               obtain ⟨A9, c9, e9, hc9, hC9⟩ := Kd.Q_reads hq
               have hl9 : ([] ++ ints L).length + 1 = t + 1 := by rw [List.nil_append, ints_len, HR.out.2.2.2.2.2.2.1]
               have hl8 : ([] ++ ints L ++ [(0 : Int)]).length = t + 1 := by rw [List.length_append]; exact hl9
               have hi9 : [] ++ ints L ++ [(0 : Int)] = ints (L ++ [0]) := by rw [List.nil_append, ints_append]; rfl
               rw [hl8] at e9 hc9 hC9
               rw [hi9] at hC9
               rw [hl9] at e9 ⊢
               injection e9 with e91 e92 e93
               subst e91 e93
               have hBg : Below wr.heap.size wr w8 := pw_below_grown (below_alloc H8.out.2 _) _ (by have := H8.out.2.size; simp; omega) hgrow (fun k hk => Kd.R_base H8.out.1 k hk)
               have hcell8 := below_cell hBg HCL.out
               have hll : (L ++ [0]).length = t + 1 := by rw [List.length_append, HR.out.2.2.2.2.2.2.1]; rfl
               have hbit := Bit_any (L ++ [0]) HR.out.2.2.2.2.2.1 (some ⟨gg, off, none⟩) cap2 t s w8 (by rw [hll]; exact hC9) (by rw [hll]; exact hc9) (by rw [hll]; omega) (by omega) HR.out.2.2.2.2.2.2.2.2.1
               rw [hll, HR.out.2.2.2.2.1] at hbit
               have H9 := Aside0.mk (And.intro hbit hBg)
               clear hq hgrow hat hlt hC9 hc9 hBg hl9 hl8 hi9 hll hbit e92)
            | (refine Kd.R_append_rows_step (Kd.int .u8) (w0 := wr) wr.heap.size (by rfl) _ _ _ _ (.int .u8 0) 1 (by rfl) Tryd.underlying22 info5 rfl (by decide) (by decide) (.slice (some ⟨wr.heap.size, 0, none⟩) 0 0) [] (ints L) A6 t c6 (fun j => wr.heap.size ≤ j) (fun _ => False) (by rfl) (by rfl) (Kd.R_below (Kd.R_of_own (World.ownsRow_made wr #[] 0 (Nat.le_refl _) (Nat.zero_le _) rfl) (fun k hk => by simp [Value.ownBlock] at hk; omega)) (below_drew (below_alloc (Below.refl _ _) _))) (Kd.C_below HR.out.2.2.1 (below_drew (below_alloc (below_alloc (Below.refl _ _) _) _))) (fun x cs h => h) (fun _ hk => hk.elim) (fun k hk => by simp at hk; omega) (below_drew (below_alloc (below_alloc (Below.refl _ _) _) _)) (by simp; omega) (by simp; omega) ?_
               intro v7 w7 hR7 hB7 hG7 hat7
               have hcell7 := below_cell hB7 HCL.out
               have hn7 : w7.cell? ⟨wr.heap.size + 1, 0, none⟩ = some (.int .u8 0) := blk_cell (blk_grown (w := ((wr.alloc (.cells #[] 5)).alloc (.cells #[.int .u8 0] 5)).drew) (g := wr.heap.size + 1) (o := .cells #[.int .u8 0] 5) (by have := heap_alloc_new (wr.alloc (.cells #[] 5)) (.cells #[.int .u8 0] 5); rw [World.size_alloc] at this; exact this) hG7 (by simp [Value.ownBlock])) 0
               have H8B := Aside0.mk (And.intro hR7 (And.intro hB7 hn7))
               clear hR7 hB7 hG7 hat7 hn7)
            | ((refine step_append_Q (Kd.int .u8) (by rfl) _ _ _ (by rfl) wr.heap.size 5 _ 1 Tryd.underlying22 info5 rfl (by decide) (by decide) v7 ([] ++ ints L) (0 : Int) [.int .u8 0] (fun k => wr.heap.size ≤ k) (fun _ => False) (by rfl) (Kd.Q_of_R H8B.out.1) ⟨wr.heap.size + 1, 0, none⟩ 1 (by rfl) (news_one H8B.out.2.2) (by exact rfl) (fun k hk => hk.elim) (fun k hk => Nat.le_trans H8B.out.2.1.size hk) H8B.out.2.1.size (by rw [List.nil_append, ints_len, HR.out.2.2.2.2.2.2.1]; omega) ?_)
               intro gg off cap2 w8 hq hgrow hat hlt
               obtain ⟨A9, c9, e9, hc9, hC9⟩ := Kd.Q_reads hq
               have hl9 : ([] ++ ints L).length + 1 = t + 1 := by rw [List.nil_append, ints_len, HR.out.2.2.2.2.2.2.1]
               have hl8 : ([] ++ ints L ++ [(0 : Int)]).length = t + 1 := by rw [List.length_append]; exact hl9
               have hi9 : [] ++ ints L ++ [(0 : Int)] = ints (L ++ [0]) := by rw [List.nil_append, ints_append]; rfl
               rw [hl8] at e9 hc9 hC9
               rw [hi9] at hC9
               rw [hl9] at e9 ⊢
               injection e9 with e91 e92 e93
               subst e91 e93
               have hBg : Below wr.heap.size wr w8 := pw_below_grown (H8B.out.2.1) _ H8B.out.2.1.size hgrow (fun k hk => Kd.R_base H8B.out.1 k hk)
               have hcell8 := below_cell hBg HCL.out
               have hll : (L ++ [0]).length = t + 1 := by rw [List.length_append, HR.out.2.2.2.2.2.2.1]; rfl
               have hbit := Bit_any (L ++ [0]) HR.out.2.2.2.2.2.1 (some ⟨gg, off, none⟩) cap2 t s w8 (by rw [hll]; exact hC9) (by rw [hll]; exact hc9) (by rw [hll]; omega) (by omega) HR.out.2.2.2.2.2.2.2.2.1
               rw [hll, HR.out.2.2.2.2.1] at hbit
               have H9 := Aside0.mk (And.intro hbit hBg)
               clear hq hgrow hat hlt hC9 hc9 hBg hl9 hl8 hi9 hll hbit e92)
            | (refine Kd.R_append_rows_step (Kd.int .u8) (w0 := wr) wr.heap.size (by rfl) _ _ _ _ (.int .u8 0) 1 (by rfl) Tryd.underlying22 info5 rfl (by decide) (by decide) (.slice (some ⟨wr.heap.size + 1, 0, none⟩) 0 0) [] (ints L) A6 t c6 (fun j => wr.heap.size ≤ j) (fun _ => False) (by rfl) (by rfl) (made_second wr) (Kd.C_below HR.out.2.2.1 (below_drew (below_alloc (below_alloc (Below.refl _ _) _) _))) (fun x cs h => h) (fun _ hk => hk.elim) (fun k hk => by simp at hk; omega) (below_drew (below_alloc (below_alloc (Below.refl _ _) _) _)) (by simp; omega) (by simp; omega) ?_
               intro v7 w7 hR7 hB7 hG7 hat7
               have hcell7 := below_cell hB7 HCL.out
               have hn7 : w7.cell? ⟨wr.heap.size, 0, none⟩ = some (.int .u8 0) := blk_cell (blk_grown (w := ((wr.alloc (.cells #[.int .u8 0] 5)).alloc (.cells #[] 5)).drew) (g := wr.heap.size) (o := .cells #[.int .u8 0] 5) ((Below.heap_alloc (wr.alloc (.cells #[.int .u8 0] 5)) (.cells #[] 5) wr.heap.size (by simp)).trans (heap_alloc_new wr _)) hG7 (by simp [Value.ownBlock])) 0
               have H8C := Aside0.mk (And.intro hR7 (And.intro hB7 hn7))
               clear hR7 hB7 hG7 hat7 hn7)
            | ((refine step_append_Q (Kd.int .u8) (by rfl) _ _ _ (by rfl) wr.heap.size 5 _ 1 Tryd.underlying22 info5 rfl (by decide) (by decide) v7 ([] ++ ints L) (0 : Int) [.int .u8 0] (fun k => wr.heap.size ≤ k) (fun _ => False) (by rfl) (Kd.Q_of_R H8C.out.1) ⟨wr.heap.size, 0, none⟩ 1 (by rfl) (news_one H8C.out.2.2) (by exact rfl) (fun k hk => hk.elim) (fun k hk => Nat.le_trans H8C.out.2.1.size hk) H8C.out.2.1.size (by rw [List.nil_append, ints_len, HR.out.2.2.2.2.2.2.1]; omega) ?_)
               intro gg off cap2 w8 hq hgrow hat hlt
               obtain ⟨A9, c9, e9, hc9, hC9⟩ := Kd.Q_reads hq
               have hl9 : ([] ++ ints L).length + 1 = t + 1 := by rw [List.nil_append, ints_len, HR.out.2.2.2.2.2.2.1]
               have hl8 : ([] ++ ints L ++ [(0 : Int)]).length = t + 1 := by rw [List.length_append]; exact hl9
               have hi9 : [] ++ ints L ++ [(0 : Int)] = ints (L ++ [0]) := by rw [List.nil_append, ints_append]; rfl
               rw [hl8] at e9 hc9 hC9
               rw [hi9] at hC9
               rw [hl9] at e9 ⊢
               injection e9 with e91 e92 e93
               subst e91 e93
               have hBg : Below wr.heap.size wr w8 := pw_below_grown (H8C.out.2.1) _ H8C.out.2.1.size hgrow (fun k hk => Kd.R_base H8C.out.1 k hk)
               have hcell8 := below_cell hBg HCL.out
               have hll : (L ++ [0]).length = t + 1 := by rw [List.length_append, HR.out.2.2.2.2.2.2.1]; rfl
               have hbit := Bit_any (L ++ [0]) HR.out.2.2.2.2.2.1 (some ⟨gg, off, none⟩) cap2 t s w8 (by rw [hll]; exact hC9) (by rw [hll]; exact hc9) (by rw [hll]; omega) (by omega) HR.out.2.2.2.2.2.2.2.2.1
               rw [hll, HR.out.2.2.2.2.1] at hbit
               have H9 := Aside0.mk (And.intro hbit hBg)
               clear hq hgrow hat hlt hC9 hc9 hBg hl9 hl8 hi9 hll hbit e92)
            | (go_simp; go_at_call 61; refine (HR.out.2.2.2.1 _).mono ?_; rintro e w9 ⟨rfl, rfl⟩)
            | (go_simp; go_at_call 62; refine H9.out.1.mono ?_; rintro e w10 ⟨rfl, hB10⟩; have hB10' := H9.out.2.trans (hB10.mono H9.out.2.size); have hcell10 := below_cell hB10' HCL.out; have H10 := Aside0.mk hB10'; clear hB10 hB10'))
          all_goals go_wp2_with fail
          all_goals go_meet
          all_goals exact ⟨by rw [HG.out], H10.out⟩
        · have hne : ((o : Int) == (g : Int)) = false := by rw [beq_eq_false_iff_ne]; omega
          have HG := Aside0.mk (show decide (¬ o = g) = true from decide_eq_true hog)
          have hne2 : ((o : Int) != (g : Int)) = true := by rw [bne_iff_ne]; omega
          have hnd : decide (o = g) = false := decide_eq_false hog
          clear hog
          go_region_law (first
            | (refine Kd.R_append_rows_step (Kd.int .u8) (w0 := wr) wr.heap.size (by rfl) _ _ _ _ (.int .u8 0) 1 (by rfl) Tryd.underlying22 info5 rfl (by decide) (by decide) (.slice (some ⟨wr.heap.size, 0, none⟩) 0 0) [] (ints L) A6 t c6 (fun j => wr.heap.size ≤ j) (fun _ => False) (by rfl) (by rfl) (Kd.R_below (Kd.R_of_own (World.ownsRow_made wr #[] 0 (Nat.le_refl _) (Nat.zero_le _) rfl) (fun k hk => by simp [Value.ownBlock] at hk; omega)) (below_drew (Below.refl _ _))) (Kd.C_below HR.out.2.2.1 (below_drew (below_alloc (Below.refl _ _) _))) (fun x cs h => h) (fun _ hk => hk.elim) (fun k hk => by simp at hk; omega) (below_drew (below_alloc (Below.refl _ _) _)) (by simp) (by simp; omega) ?_
               intro v7 w7 hR7 hB7 hG7 hat7
               have hcell7 := below_cell hB7 HCL.out
               have hcell7a : ∀ o, (w7.alloc o).cell? (ad.add t) = some (.int .u8 (g : Int)) := fun o => Lib.cell?_alloc_some _ hcell7
               have H8 := Aside0.mk (And.intro hR7 hB7)
               clear hR7 hB7 hG7 hat7)
            | ((refine step_append_Q (Kd.int .u8) (by rfl) _ _ _ (by rfl) wr.heap.size 5 _ 1 Tryd.underlying22 info5 rfl (by decide) (by decide) v7 ([] ++ ints L) (0 : Int) [.int .u8 0] (fun k => wr.heap.size ≤ k) (fun _ => False) (by rfl) (Kd.Q_alloc (Kd.Q_of_R H8.out.1) _) ⟨w7.heap.size, 0, none⟩ 1 (by rfl) (World.news_of_block (cs := #[.int .u8 0]) (t := 5) (fr := (0, 0)) (heap_alloc_new w7 _)) (by exact rfl) (fun k hk => hk.elim) (fun k hk => by have := H8.out.2.size; simp at hk; omega) (by have := H8.out.2.size; simp; omega) (by rw [List.nil_append, ints_len, HR.out.2.2.2.2.2.2.1]; omega) ?_)
               intro gg off cap2 w8 hq hgrow hat hlt
               obtain ⟨A9, c9, e9, hc9, hC9⟩ := Kd.Q_reads hq
               have hl9 : ([] ++ ints L).length + 1 = t + 1 := by rw [List.nil_append, ints_len, HR.out.2.2.2.2.2.2.1]
               have hl8 : ([] ++ ints L ++ [(0 : Int)]).length = t + 1 := by rw [List.length_append]; exact hl9
               have hi9 : [] ++ ints L ++ [(0 : Int)] = ints (L ++ [0]) := by rw [List.nil_append, ints_append]; rfl
               rw [hl8] at e9 hc9 hC9
               rw [hi9] at hC9
               rw [hl9] at e9 ⊢
               injection e9 with e91 e92 e93
               subst e91 e93
               have hBg : Below wr.heap.size wr w8 := pw_below_grown (below_alloc H8.out.2 _) _ (by have := H8.out.2.size; simp; omega) hgrow (fun k hk => Kd.R_base H8.out.1 k hk)
               have hcell8 := below_cell hBg HCL.out
               have hll : (L ++ [0]).length = t + 1 := by rw [List.length_append, HR.out.2.2.2.2.2.2.1]; rfl
               have hbit := Bit_any (L ++ [0]) HR.out.2.2.2.2.2.1 (some ⟨gg, off, none⟩) cap2 t s w8 (by rw [hll]; exact hC9) (by rw [hll]; exact hc9) (by rw [hll]; omega) (by omega) HR.out.2.2.2.2.2.2.2.2.1
               rw [hll, HR.out.2.2.2.2.1] at hbit
               have H9 := Aside0.mk (And.intro hbit hBg)
               clear hq hgrow hat hlt hC9 hc9 hBg hl9 hl8 hi9 hll hbit e92)
            | (refine Kd.R_append_rows_step (Kd.int .u8) (w0 := wr) wr.heap.size (by rfl) _ _ _ _ (.int .u8 0) 1 (by rfl) Tryd.underlying22 info5 rfl (by decide) (by decide) (.slice (some ⟨wr.heap.size, 0, none⟩) 0 0) [] (ints L) A6 t c6 (fun j => wr.heap.size ≤ j) (fun _ => False) (by rfl) (by rfl) (Kd.R_below (Kd.R_of_own (World.ownsRow_made wr #[] 0 (Nat.le_refl _) (Nat.zero_le _) rfl) (fun k hk => by simp [Value.ownBlock] at hk; omega)) (below_drew (below_alloc (Below.refl _ _) _))) (Kd.C_below HR.out.2.2.1 (below_drew (below_alloc (below_alloc (Below.refl _ _) _) _))) (fun x cs h => h) (fun _ hk => hk.elim) (fun k hk => by simp at hk; omega) (below_drew (below_alloc (below_alloc (Below.refl _ _) _) _)) (by simp; omega) (by simp; omega) ?_
               intro v7 w7 hR7 hB7 hG7 hat7
               have hcell7 := below_cell hB7 HCL.out
               have hn7 : w7.cell? ⟨wr.heap.size + 1, 0, none⟩ = some (.int .u8 0) := blk_cell (blk_grown (w := ((wr.alloc (.cells #[] 5)).alloc (.cells #[.int .u8 0] 5)).drew) (g := wr.heap.size + 1) (o := .cells #[.int .u8 0] 5) (by have := heap_alloc_new (wr.alloc (.cells #[] 5)) (.cells #[.int .u8 0] 5); rw [World.size_alloc] at this; exact this) hG7 (by simp [Value.ownBlock])) 0
               have H8B := Aside0.mk (And.intro hR7 (And.intro hB7 hn7))
               clear hR7 hB7 hG7 hat7 hn7)
            | ((refine step_append_Q (Kd.int .u8) (by rfl) _ _ _ (by rfl) wr.heap.size 5 _ 1 Tryd.underlying22 info5 rfl (by decide) (by decide) v7 ([] ++ ints L) (0 : Int) [.int .u8 0] (fun k => wr.heap.size ≤ k) (fun _ => False) (by rfl) (Kd.Q_of_R H8B.out.1) ⟨wr.heap.size + 1, 0, none⟩ 1 (by rfl) (news_one H8B.out.2.2) (by exact rfl) (fun k hk => hk.elim) (fun k hk => Nat.le_trans H8B.out.2.1.size hk) H8B.out.2.1.size (by rw [List.nil_append, ints_len, HR.out.2.2.2.2.2.2.1]; omega) ?_)
               intro gg off cap2 w8 hq hgrow hat hlt
               obtain ⟨A9, c9, e9, hc9, hC9⟩ := Kd.Q_reads hq
               have hl9 : ([] ++ ints L).length + 1 = t + 1 := by rw [List.nil_append, ints_len, HR.out.2.2.2.2.2.2.1]
               have hl8 : ([] ++ ints L ++ [(0 : Int)]).length = t + 1 := by rw [List.length_append]; exact hl9
               have hi9 : [] ++ ints L ++ [(0 : Int)] = ints (L ++ [0]) := by rw [List.nil_append, ints_append]; rfl
               rw [hl8] at e9 hc9 hC9
               rw [hi9] at hC9
               rw [hl9] at e9 ⊢
               injection e9 with e91 e92 e93
               subst e91 e93
               have hBg : Below wr.heap.size wr w8 := pw_below_grown (H8B.out.2.1) _ H8B.out.2.1.size hgrow (fun k hk => Kd.R_base H8B.out.1 k hk)
               have hcell8 := below_cell hBg HCL.out
               have hll : (L ++ [0]).length = t + 1 := by rw [List.length_append, HR.out.2.2.2.2.2.2.1]; rfl
               have hbit := Bit_any (L ++ [0]) HR.out.2.2.2.2.2.1 (some ⟨gg, off, none⟩) cap2 t s w8 (by rw [hll]; exact hC9) (by rw [hll]; exact hc9) (by rw [hll]; omega) (by omega) HR.out.2.2.2.2.2.2.2.2.1
               rw [hll, HR.out.2.2.2.2.1] at hbit
               have H9 := Aside0.mk (And.intro hbit hBg)
               clear hq hgrow hat hlt hC9 hc9 hBg hl9 hl8 hi9 hll hbit e92)
            | (refine Kd.R_append_rows_step (Kd.int .u8) (w0 := wr) wr.heap.size (by rfl) _ _ _ _ (.int .u8 0) 1 (by rfl) Tryd.underlying22 info5 rfl (by decide) (by decide) (.slice (some ⟨wr.heap.size + 1, 0, none⟩) 0 0) [] (ints L) A6 t c6 (fun j => wr.heap.size ≤ j) (fun _ => False) (by rfl) (by rfl) (made_second wr) (Kd.C_below HR.out.2.2.1 (below_drew (below_alloc (below_alloc (Below.refl _ _) _) _))) (fun x cs h => h) (fun _ hk => hk.elim) (fun k hk => by simp at hk; omega) (below_drew (below_alloc (below_alloc (Below.refl _ _) _) _)) (by simp; omega) (by simp; omega) ?_
               intro v7 w7 hR7 hB7 hG7 hat7
               have hcell7 := below_cell hB7 HCL.out
               have hn7 : w7.cell? ⟨wr.heap.size, 0, none⟩ = some (.int .u8 0) := blk_cell (blk_grown (w := ((wr.alloc (.cells #[.int .u8 0] 5)).alloc (.cells #[] 5)).drew) (g := wr.heap.size) (o := .cells #[.int .u8 0] 5) ((Below.heap_alloc (wr.alloc (.cells #[.int .u8 0] 5)) (.cells #[] 5) wr.heap.size (by simp)).trans (heap_alloc_new wr _)) hG7 (by simp [Value.ownBlock])) 0
               have H8C := Aside0.mk (And.intro hR7 (And.intro hB7 hn7))
               clear hR7 hB7 hG7 hat7 hn7)
            | ((refine step_append_Q (Kd.int .u8) (by rfl) _ _ _ (by rfl) wr.heap.size 5 _ 1 Tryd.underlying22 info5 rfl (by decide) (by decide) v7 ([] ++ ints L) (0 : Int) [.int .u8 0] (fun k => wr.heap.size ≤ k) (fun _ => False) (by rfl) (Kd.Q_of_R H8C.out.1) ⟨wr.heap.size, 0, none⟩ 1 (by rfl) (news_one H8C.out.2.2) (by exact rfl) (fun k hk => hk.elim) (fun k hk => Nat.le_trans H8C.out.2.1.size hk) H8C.out.2.1.size (by rw [List.nil_append, ints_len, HR.out.2.2.2.2.2.2.1]; omega) ?_)
               intro gg off cap2 w8 hq hgrow hat hlt
               obtain ⟨A9, c9, e9, hc9, hC9⟩ := Kd.Q_reads hq
               have hl9 : ([] ++ ints L).length + 1 = t + 1 := by rw [List.nil_append, ints_len, HR.out.2.2.2.2.2.2.1]
               have hl8 : ([] ++ ints L ++ [(0 : Int)]).length = t + 1 := by rw [List.length_append]; exact hl9
               have hi9 : [] ++ ints L ++ [(0 : Int)] = ints (L ++ [0]) := by rw [List.nil_append, ints_append]; rfl
               rw [hl8] at e9 hc9 hC9
               rw [hi9] at hC9
               rw [hl9] at e9 ⊢
               injection e9 with e91 e92 e93
               subst e91 e93
               have hBg : Below wr.heap.size wr w8 := pw_below_grown (H8C.out.2.1) _ H8C.out.2.1.size hgrow (fun k hk => Kd.R_base H8C.out.1 k hk)
               have hcell8 := below_cell hBg HCL.out
               have hll : (L ++ [0]).length = t + 1 := by rw [List.length_append, HR.out.2.2.2.2.2.2.1]; rfl
               have hbit := Bit_any (L ++ [0]) HR.out.2.2.2.2.2.1 (some ⟨gg, off, none⟩) cap2 t s w8 (by rw [hll]; exact hC9) (by rw [hll]; exact hc9) (by rw [hll]; omega) (by omega) HR.out.2.2.2.2.2.2.2.2.1
               rw [hll, HR.out.2.2.2.2.1] at hbit
               have H9 := Aside0.mk (And.intro hbit hBg)
               clear hq hgrow hat hlt hC9 hc9 hBg hl9 hl8 hi9 hll hbit e92)
            | (go_simp; go_at_call 61; refine (HR.out.2.2.2.1 _).mono ?_; rintro e w9 ⟨rfl, rfl⟩)
            | (go_simp; go_at_call 62; refine H9.out.1.mono ?_; rintro e w10 ⟨rfl, hB10⟩; have hB10' := H9.out.2.trans (hB10.mono H9.out.2.size); have hcell10 := below_cell hB10' HCL.out; have H10 := Aside0.mk hB10'; clear hB10 hB10'))
          all_goals go_wp2_with fail
          all_goals go_meet
          all_goals exact ⟨by rw [HG.out], H10.out⟩
      case rest =>
        obtain ⟨rfl, hBx⟩ := hcut
        have HX := Aside0.mk (And.intro (Kd.R_below HR.out.1 hBx) (HR.out.2.1.trans (hBx.mono HR.out.2.1.size)))
        clear hBx hcella hcellb hcell
        by_cases hog : o = g
        · rw [if_pos hog] at hbt
          have HY := Aside0.mk hbt
          rw [decide_eq_false (fun h => h hog)]
          clear hbt hog
          go_wp2_with ((with_reducible refine gate_builtin (b := .append) (xs := #[.tmp 32, .tmp 34]) rfl ?_); at_builtin; refine Kd.R_append (Kd.int .u8) (w0 := w) w.heap.size rfl (.tmp 32) (.tmp 34) 22 5 (.int .u8 0) 1 rfl Tryd.underlying22 info5 rfl (by decide) (by omega) (.slice A6 t c6) (ints L) (0) [.int .u8 0] (fun k => w.heap.size ≤ k) (fun _ => False) rfl rfl ?aP (fun _ hk => hk.elim) ?aF ?aO ?aB ?aS ?aL ?_; (case aP => exact rfl); (case aB => exact HX.out.2); (case aF => exact (fun k hk => Nat.le_trans (below_size HX.out.2) hk)); (case aO => exact HX.out.1); (case aS => exact below_size HX.out.2); (case aL => rw [ints_len, HR.out.2.2.2.2.2.2.1]; omega); intro v1 w7 ho hb7 hg hat; have HK := Aside0.mk (And.intro ho hb7); clear ho hb7 hg hat)
          refine ⟨⟨t + 1, by go_num, by omega, ?_, HK.out.2⟩, by simp only [intOf]; omega⟩
          rw [HR.out.2.2.2.2.2.2.2.1, HY.out, ints_append]
          exact HK.out.1
        · rw [if_neg hog] at hbt
          have HY := Aside0.mk hbt
          rw [decide_eq_true hog]
          clear hbt hog
          go_wp2_with ((with_reducible refine gate_builtin (b := .append) (xs := #[.tmp 32, .tmp 34]) rfl ?_); at_builtin; refine Kd.R_append (Kd.int .u8) (w0 := w) w.heap.size rfl (.tmp 32) (.tmp 34) 22 5 (.int .u8 0) 1 rfl Tryd.underlying22 info5 rfl (by decide) (by omega) (.slice A6 t c6) (ints L) (1) [.int .u8 1] (fun k => w.heap.size ≤ k) (fun _ => False) rfl rfl ?aP (fun _ hk => hk.elim) ?aF ?aO ?aB ?aS ?aL ?_; (case aP => exact rfl); (case aB => exact HX.out.2); (case aF => exact (fun k hk => Nat.le_trans (below_size HX.out.2) hk)); (case aO => exact HX.out.1); (case aS => exact below_size HX.out.2); (case aL => rw [ints_len, HR.out.2.2.2.2.2.2.1]; omega); intro v1 w7 ho hb7 hg hat; have HK := Aside0.mk (And.intro ho hb7); clear ho hb7 hg hat)
          refine ⟨⟨t + 1, by go_num, by omega, ?_, HK.out.2⟩, by simp only [intOf]; omega⟩
          rw [HR.out.2.2.2.2.2.2.2.1, HY.out, ints_append]
          exact HK.out.1
    · have hge : ¬ (t : Int) < (n : Int) := by omega
      obtain rfl : t = n := by omega
      obtain ⟨g, cp, hv6, hg1, hg2, _⟩ := Kd.R_form hR (by rw [ints_len, mapL_len]; have := HC.out.2.2.2; omega)
      subst hv6
      obtain ⟨A6, c6, he6, hc6, hC6⟩ := Kd.R_reads hR
      cases he6
      rw [ints_len, mapL_len] at hC6 hc6 hR ⊢
      have HR := Aside0.mk (And.intro hR (And.intro hB (And.intro hC6 hc6)))
      have hm6 := HC.out.2.2.2
      have hmt : (m : Int) ≤ (t : Int) := by omega
      have hmc : (m : Int) ≤ (cp : Int) := by omega
      have hmc2 : m ≤ cp := by omega
      have hm0 : (0 : Int) ≤ (m : Int) := by omega
      have hcm : ¬ cp = m := by omega
      clear hR hB hC6 hc6 hm6
      go_wp2
      go_loopw [10] (fun x10 wq => ∃ k : Nat, x10 = .int .i64 k ∧ m ≤ k ∧ k ≤ t ∧ Aside0 (∀ j, m ≤ j → j < k → aB p v j = 0) ∧ wq = wr) (fun x10 _ => t - (intOf x10).toNat)
      case atStart => exact ⟨m, rfl, Nat.le_refl _, by omega, ⟨fun j h1 h2 => by omega⟩, rfl⟩
      case round =>
        obtain ⟨k, rfl, hk1, hk2, hK, rfl⟩ := hrel
        by_cases hkt : k < t
        · have hlt : (k : Int) < (t : Int) := by omega
          obtain ⟨ad, hA, hcell⟩ := Kd.at_int HR.out.2.2.1 (k : Int) (by omega) hlt
          cases hA
          have hrd : rd (ints (mapL (aB p v) t)) (k : Int) = ((aB p v k : Nat) : Int) := by simp [rd, ints, mapL, hkt]
          rw [hrd, Int.toNat_natCast, addO, Nat.zero_add] at hcell
          obtain ⟨y, hy⟩ : ∃ y, aB p v k = y := ⟨_, rfl⟩
          rw [hy] at hcell
          by_cases hy0 : y = 0
          · subst hy0
            have HY := Aside0.mk hy
            clear hrd hy
            go_wp2
            refine ⟨⟨k + 1, by go_num, by omega, by omega, ⟨fun j h1 h2 => ?_⟩, trivial⟩, by simp only [intOf]; omega⟩
            by_cases hjk : j = k
            · rw [hjk]; exact HY.out
            · exact hK.out j h1 (by omega)
          · have hne : ((y : Int) == 0) = false := by rw [beq_eq_false_iff_ne]; omega
            have hne2 : ¬ (y : Int) = 0 := by omega
            have hno := aOk_no hk1 hkt (by rw [hy]; exact hy0)
            have HY := Aside0.mk hno
            clear hrd hy hy0 hno
            go_wp2
            go_ret2
            refine ⟨g, cp, ?_, HR.out.1, HR.out.2.2.2, HR.out.2.1⟩
            unfold raV
            rw [if_neg HY.out]
            rfl
        · have hge2 : ¬ (k : Int) < (t : Int) := by omega
          obtain rfl : k = t := by omega
          have hyes := aOk_yes hK.out
          have HY := Aside0.mk hyes
          clear hyes hk1
          go_wp2
          go_ret2
          refine ⟨g, cp, ?_, HR.out.1, HR.out.2.2.2, HR.out.2.1⟩
          unfold raV
          rw [if_pos HY.out]
          rfl
end Go.Proofs.YtnejnnfjbhpigaaDoor.Vit
