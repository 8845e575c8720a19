/- Contract of the program's line (stats.Line): each theorem says its own conditions. -/
import Derived.Test.YtjillkcognlljaaDoorSb
import Derived.Lib.SmallJoins
import Derived.Lib.AppendIntMem
namespace Go.Proofs.YtjillkcognlljaaDoor.Vit
open Go.RowKit Go.Proofs.YtjillkcognlljaaDoorW.PrintWords Go.Proofs.YtjillkcognlljaaDoorW.PrintLast Go.Proofs.YtjillkcognlljaaDoorW.PrintMore Go.Proofs.YtjillkcognlljaaDoor.Mem
attribute [local go_sem] max2_int min2_int max_two min_two max_three min_three max_four min_four   -- for this text's walks alone
set_option linter.unusedVariables false
set_option linter.unusedSimpArgs false

/-- The eight parts' cells. -/
abbrev prts (c : Nat → Int) : Array Value := #[.string ⟨#[115, 101, 110, 116]⟩, .int .i64 (c 0), .string ⟨#[114, 101, 102, 117, 115, 101, 100]⟩, .int .i64 (c 1), .string ⟨#[98, 97, 100]⟩, .int .i64 (c 2), .string ⟨#[111, 108, 100]⟩, .int .i64 (c 3), .string ⟨#[102, 97, 114]⟩, .int .i64 (c 4), .string ⟨#[110, 111, 105, 115, 101]⟩, .int .i64 (c 5), .string ⟨#[114, 101, 97, 100]⟩, .int .i64 (c 6), .string ⟨#[97, 99, 107, 115]⟩, .int .i64 (c 7)]
theorem prts_get (c : Nat → Int) (i : Nat) (h : i < 8) : (prts c)[i * 2]? = some (.string ⟨(nam i).toArray⟩) ∧ (prts c)[i * 2 + 1]? = some (.int .i64 (c i)) := by
  match i, h with
  | 0, _ => exact ⟨rfl, rfl⟩
  | 1, _ => exact ⟨rfl, rfl⟩
  | 2, _ => exact ⟨rfl, rfl⟩
  | 3, _ => exact ⟨rfl, rfl⟩
  | 4, _ => exact ⟨rfl, rfl⟩
  | 5, _ => exact ⟨rfl, rfl⟩
  | 6, _ => exact ⟨rfl, rfl⟩
  | 7, _ => exact ⟨rfl, rfl⟩
/-- Texts as Go's strings. -/
def strs (l : List (List UInt8)) : List ByteArray := l.map fun b => ⟨b.toArray⟩
theorem strs_len (l : List (List UInt8)) : (strs l).length = l.length := by simp [strs]
theorem strs_data (l : List (List UInt8)) : (strs l).map (·.data.toList) = l := by
  unfold strs
  rw [List.map_map]
  have : ((fun x : ByteArray => x.data.toList) ∘ fun b : List UInt8 => (⟨b.toArray⟩ : ByteArray)) = id := by funext b; simp
  rw [this, List.map_id]
abbrev Tab (w : World) : Prop := Lib.TabIs Tryd.prog w "internal/strconv.uint64pow10" .u64 Lib.pow10Tab
theorem info9 : (Tryd.prog.info? 9).map (fun i => (i.zero, i.size, i.bytes)) = some (some (.string ⟨#[]⟩), 1, 16) := by kernel_rfl
theorem glob_pow : Tryd.prog.globalNamed "internal/strconv.uint64pow10" = some 1 := by kernel_rfl
theorem Tab.below {w w' : World} (h : Tab w) (hb : Below w.heap.size w w') : Tab w' := Joins.tab_stays glob_pow h hb (Nat.le_refl _)
theorem strs_snoc (l : List (List UInt8)) (x : List UInt8) : strs (l ++ [x]) = strs l ++ [⟨x.toArray⟩] := by simp [strs]
theorem outs_zero (c : Nat → Int) (k : Nat) (h : c k = 0) : outs c (k + 1) = outs c k := if_pos h
theorem outs_next (c : Nat → Int) (k : Nat) (h : c k ≠ 0) : outs c (k + 1) = outs c k ++ [ent k (c k)] := if_neg h
theorem ent_string (k : Nat) (x : Int) : (⟨(nam k).toArray⟩ : ByteArray) ++ ⟨#[32]⟩ ++ ⟨(Lib.itoa x).toArray⟩ = ⟨(ent k x).toArray⟩ := by
  have e : (⟨#[32]⟩ : ByteArray) = ⟨([32] : List UInt8).toArray⟩ := rfl
  rw [e, cat_toArray, cat_toArray]
  rfl
set_option maxHeartbeats 3200000 in
set_option maxRecDepth 100000 in
theorem Line_any (c : Nat → Int) (hc : ∀ k, -9223372036854775808 ≤ c k ∧ c k ≤ 9223372036854775807) (w : World) (ht : Tab w) : Calls Tryd.prog 8 #[.agg (cnts c)] w fun e w' => e = .returned (.string ⟨(lin c).toArray⟩) ∧ Below w.heap.size w w' := by
  have HC := Aside0.mk (And.intro hc ht)
  clear hc ht
  go_enter Tryd.func8, Tryd.ntmps8
  go_wp2_with fail
  obtain ⟨W1, hW1⟩ : ∃ W1, ((w.alloc (.cells (cnts c) 26)).alloc (.cells (prts c) 61)) = W1 := ⟨_, rfl⟩
  have h1 : W1.heap[w.heap.size + 1]? = some (.cells (prts c) 61 (0, 0)) := by
    rw [← hW1]
    have := heap_alloc_new (w.alloc (.cells (cnts c) 26)) (.cells (prts c) 61)
    rw [World.size_alloc] at this
    exact this
  have hB1 : Below w.heap.size w W1 := by rw [← hW1]; exact below_alloc (below_alloc (Below.refl _ _) _) _
  rw [hW1]
  have H1 := Aside0.mk (And.intro h1 hB1)
  clear hW1 h1 hB1
  go_loopw [3, 32] (fun x y wr => ∃ k : Nat, y = .int .i64 k ∧ k ≤ 8 ∧ Kd.string.Q 9 wr w.heap.size (fun _ => True) x (strs (outs c k)) ∧ wr.heap[w.heap.size + 1]? = some (.cells (prts c) 61 (0, 0)) ∧ Below w.heap.size w wr) (fun _ y _ => 8 - (intOf y).toNat)
  case atStart => exact ⟨0, rfl, by omega, Kd.Q_nil _ _ _ _ _, H1.out⟩
  case round =>
    clear H1
    obtain ⟨k, rfl, hk8, hR⟩ := hrel
    have HR := Aside0.mk hR
    clear hR
    have hol := outs_len c k
    by_cases hk : k < 8
    · have hk' : (k : Int) < 8 := by omega
      have c0 := (blk_cell HR.out.2.1 (k * 2)).trans (prts_get c k hk).1
      have c1 := (blk_cell HR.out.2.1 (k * 2 + 1)).trans (prts_get c k hk).2
      have hnl := nam_len k
      have hil := Lib.itoa_length_le (c k) (HC.out.1 k).1 (HC.out.1 k).2
      have hnum := fun W hT => Tryd.strconv_Itoa (c k) (HC.out.1 k).1 (HC.out.1 k).2 W hT
      have hen := ent_string k (c k)
      obtain ⟨E, hE⟩ : ∃ E, ent k (c k) = E := ⟨_, rfl⟩
      rw [hE] at hen
      have HN0 := fun h => outs_zero c k h
      have HN1 := fun h => outs_next c k h
      rw [hE] at HN1
      obtain ⟨x, hx⟩ : ∃ x, c k = x := ⟨_, rfl⟩
      obtain ⟨nm, hnm⟩ : ∃ nm, nam k = nm := ⟨_, rfl⟩
      obtain ⟨it, hit⟩ : ∃ it, Lib.itoa x = it := ⟨_, rfl⟩
      rw [hx] at c1 hil hen HN0 HN1
      simp only [hx] at hnum
      rw [hnm] at c0 hnl hen
      rw [hit] at hil hen
      simp only [hit] at hnum
      have HX := Aside0.mk (And.intro HN0 (And.intro HN1 (And.intro hnum hen)))
      clear hx hnm hit hnum HN0 HN1 hen hE
      by_cases hx0 : x = 0
      · subst hx0
        go_wp2_with fail
        have hBk := below_alloc (Below.refl wr.heap.size wr) (.cells #[.string ⟨nm.toArray⟩, .int .i64 0] 61)
        refine ⟨⟨k + 1, by go_num, by omega, ?_, below_cell_blk hBk HR.out.2.1, HR.out.2.2.trans (hBk.mono HR.out.2.2.size)⟩, by simp only [intOf]; omega⟩
        rw [HX.out.1 rfl]
        exact Kd.Q_below HR.out.1 hBk
      · have hxb : ((x : Int) == 0) = false := by rw [beq_eq_false_iff_ne]; exact hx0
        have HX0 := Aside0.mk hx0
        have n1 : ¬ 9223372036854775807 < nm.length + 1 := by omega
        have n2 : ¬ 9223372036854775807 < nm.length + 1 + it.length := by omega
        clear hx0
        go_upto_region 6 with fail
        obtain ⟨W1, hW1⟩ : ∃ W1, wr.alloc (.cells #[.string ⟨nm.toArray⟩, .int .i64 x] 61) = W1 := ⟨_, rfl⟩
        have hBk : Below wr.heap.size wr W1 := by rw [← hW1]; exact below_alloc (Below.refl _ _) _
        have hX : W1.heap[wr.heap.size]? = some (.cells #[.string ⟨nm.toArray⟩, .int .i64 x] 61 (0, 0)) := by rw [← hW1]; exact heap_alloc_new _ _
        have d0 := blk_cell hX 0
        have d1 := blk_cell hX 1
        simp only [List.getElem?_toArray, List.getElem?_cons_zero, List.getElem?_cons_succ] at d0 d1
        have hBw1 := HR.out.2.2.trans (hBk.mono HR.out.2.2.size)
        have hT1 : Tab W1.drew := (HC.out.2.below hBw1).below (pw_below_drewN (Below.refl _ _) 1)
        have H1 := Aside0.mk (And.intro (Kd.Q_below HR.out.1 hBk) (And.intro (below_cell_blk hBk HR.out.2.1) (And.intro hBw1 hT1)))
        rw [hW1]
        obtain ⟨sz, hsz⟩ : ∃ sz, wr.heap.size = sz := ⟨_, rfl⟩
        rw [hsz] at d0 d1 ⊢
        clear hBk hX hBw1 hT1 hW1 hsz c0 c1
        go_region_law (first | ((refine step_append_Q Kd.string (by rfl) _ _ _ (by rfl) w.heap.size 9 _ 16 Tryd.underlying59 info9 rfl (by decide) (by decide) u3 (strs (outs c k)) (⟨nm.toArray⟩ ++ ⟨#[32]⟩ ++ ⟨it.toArray⟩) [.string (⟨nm.toArray⟩ ++ ⟨#[32]⟩ ++ ⟨it.toArray⟩)] (fun _ => True) (fun _ => False) (by rfl) (Kd.Q_alloc H2.out.1 _) ⟨w2.heap.size, 0, none⟩ 1 (by rfl) (World.news_of_block (cs := #[.string (⟨nm.toArray⟩ ++ ⟨#[32]⟩ ++ ⟨it.toArray⟩)]) (t := 9) (fr := (0, 0)) (heap_alloc_new w2 _)) (by exact rfl) (fun k hk => hk.elim) (fun _ _ => trivial) (by have := H2.out.2.2.1.size; simp; omega) (by rw [strs_len]; omega) ?_); intro gg off cap2 w7 hq hgrow hat hlt; have H7 := Aside0.mk (And.intro hq hgrow); clear hq hgrow hat hlt) | (go_simp; go_at_call 21; refine (HX.out.2.2.1 _ H1.out.2.2.2).mono ?_; rintro e w2 ⟨rfl, kk, os, hw2⟩; have hB2 : Below W1.heap.size W1 w2 := (by rw [hw2]; exact (show Below W1.heap.size W1 W1.drew from pw_below_drewN (Below.refl _ _) 1).trans (Lib.below_grow W1.heap.size W1.drew (Nat.le_refl _) kk os)); have e0 := below_cell hB2 d0; have e1 := below_cell hB2 d1; have H2 := Aside0.mk (And.intro (Kd.Q_below H1.out.1 hB2) (And.intro (below_cell_blk hB2 H1.out.2.1) (And.intro (H1.out.2.2.1.trans (hB2.mono H1.out.2.2.1.size)) hB2))); clear hw2 hB2))
        all_goals
          go_wp2_with fail
          have hgr := H7.out.2
          have hb2 := H2.out.2.1
          have hne : some (w.heap.size + 1) ≠ u3.ownBlock := Kd.Q_ne H2.out.1 hb2 (by decide)
          have hb7 : w7.heap[w.heap.size + 1]? = some (.cells (prts c) 61 (0, 0)) := (hgr.block _ (by have := blk_lt hb2; simp; omega) hne).trans (blk_alloc hb2 _)
          have hB7 : Below w.heap.size w w7 := (H2.out.2.2.1.trans ((below_alloc (Below.refl _ _) _).mono H2.out.2.2.1.size)).grown hgr (by have := H2.out.2.2.1.size; simp; omega) (fun k hk => Kd.Q_base H2.out.1 k hk)
          refine ⟨⟨k + 1, by go_num, by omega, ?_, hb7, hB7⟩, by simp only [intOf]; omega⟩
          have hQ := H7.out.1
          rw [HX.out.2.2.2] at hQ
          rw [HX.out.2.1 HX0.out, strs_snoc]
          exact hQ
    · have hk' : ¬ (k : Int) < 8 := by omega
      obtain rfl : k = 8 := by omega
      by_cases hl0 : outs c 8 = []
      · obtain ⟨A, ca, hv, hca, hC⟩ := Kd.Q_reads HR.out.1
        rw [strs_len, hl0] at hv
        subst hv
        have HL := Aside0.mk hl0
        clear hl0 hC hca hol
        go_wp2_with fail
        go_ret
        refine ⟨?_, HR.out.2.2⟩
        unfold lin
        rw [if_pos HL.out]
        rfl
      · obtain ⟨g, o, cap, hv, hg1, hg2, _⟩ := Kd.Q_form HR.out.1 (by rw [strs_len]; exact List.length_pos_iff.2 hl0)
        have hQ := HR.out.1
        rw [hv] at hQ
        rw [strs_len] at hv
        subst hv
        obtain ⟨n, hn⟩ : ∃ n, (outs c 8).length = n := ⟨_, rfl⟩
        have hn0 : ((n : Int) == 0) = false := by rw [beq_eq_false_iff_ne]; have := List.length_pos_iff.2 hl0; omega
        have hcap := (Kd.Q_reads' hQ).2.1
        rw [strs_len, hn] at hcap
        have hjb := join_bound c HC.out.1 8
        have hj := Tryd.strings_Join g o cap (strs (outs c 8)) ⟨#[44, 32]⟩ wr (fun j x hj => by
          have hlt := (List.getElem?_eq_some_iff.1 hj).1
          have h := (Kd.Q_cell ⟨#[]⟩ hQ (j : Int) (by omega) (by omega)).1
          rw [Int.toNat_natCast] at h
          rw [h]
          refine congrArg (fun q => some (Value.string q)) ?_
          show (strs (outs c 8)).getD (j : Int).toNat ⟨#[]⟩ = x
          rw [Int.toNat_natCast, List.getD_eq_getElem?_getD, hj]
          rfl) hg2 (by rw [strs_len]; omega) (by rw [strs_len]; omega) (by rw [strs_data]; exact Nat.le_trans hjb (by omega))
        rw [strs_data, strs_len, hn] at hj
        have HJ := Aside0.mk (And.intro hj hl0)
        rw [hn]
        clear hj hl0 hQ hcap hjb hn hol
        go_wp2_with fail
        refine HJ.out.1.mono ?_
        rintro e w9 ⟨rfl, hB9⟩
        have HB9 := Aside0.mk hB9
        clear hB9
        go_wp2_with fail
        go_ret
        refine ⟨?_, HR.out.2.2.trans (HB9.out.mono HR.out.2.2.size)⟩
        unfold lin
        rw [if_neg HJ.out.2]
        rfl
end Go.Proofs.YtjillkcognlljaaDoor.Vit
