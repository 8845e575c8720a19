/- Contracts of the laws' helpers over the combiner (part, combines): each theorem says its own conditions. -/
import Derived.Test.YticiilolmkbncaaDoorWc
import Derived.Test.YticiilolmkbncaaDoorWp
import Derived.ChangeKeysEq
namespace Go.Proofs.YticiilolmkbncaaDoor.Vit
open Go.RowKit Go.Proofs.YticiilolmkbncaaDoorW.PrintWords Go.Proofs.YticiilolmkbncaaDoorW.PrintLast Go.Proofs.YticiilolmkbncaaDoorW.PrintMore Go.Proofs.YticiilolmkbncaaDoor.Mem
attribute [local go_sem] max2_int min2_int max_two min_two max_three min_three max_four min_four   -- for this text's walks alone
set_option linter.unusedVariables false
set_option linter.unusedSimpArgs false

/-- The places that are turned. -/
def atl (at_ : List Int) (L k : Nat) : List Int := (at_.take k).map fun x => wrap64 ((IntKind.u64.wrap x).tmod (L : Int))
/-- A version of a list, some bits turned. -/
def partl (m : List Nat) (at_ : List Int) (v : Nat) : List Nat := turnN (pickl (code m) v (m.length + 6)) (atl at_ (m.length + 6) (min 30 at_.length)) (m.length + 6)
theorem partl_len (m : List Nat) (at_ : List Int) (v : Nat) : (partl m at_ v).length = m.length + 6 := by unfold partl; rw [turnN_len]
theorem partl_bits {m : List Nat} (hm : Bits m) (at_ : List Int) (v : Nat) : Bits (partl m at_ v) := fun b hb => by
  unfold partl turnN at hb
  obtain ⟨i, _, rfl⟩ := List.mem_map.1 hb
  refine turnAt_le ?_ _ _ _
  rw [List.getD_eq_getElem?_getD]
  cases h : (pickl (code m) v (m.length + 6))[i]? with
  | none => simp
  | some x => exact pickl_bits (code_bits m) v _ x (List.mem_of_getElem? h)
theorem atl_next (at_ : List Int) (L k : Nat) (h : k < at_.length) : atl at_ L (k + 1) = atl at_ L k ++ [wrap64 ((IntKind.u64.wrap at_[k]).tmod (L : Int))] := by
  unfold atl
  rw [List.take_add_one, List.getElem?_eq_getElem h, List.map_append]
  rfl
theorem atl_len (at_ : List Int) (L k : Nat) (h : k ≤ at_.length) : (atl at_ L k).length = k := by unfold atl; rw [List.length_map, List.length_take]; omega
set_option maxHeartbeats 3200000 in
set_option maxRecDepth 100000 in
theorem part_any (m : List Nat) (hm : Bits m) (n : Nat) (hn : m.length = n) (hn4 : n ≤ 4096) (v : Nat) (hv : v < 4) (r : Bool) (vv : Int) (at_ : List Int) (Aa Ar Al : Option Addr) (M ca R cr cl : Nat) (hM : at_.length = M) (hca : M ≤ ca) (hM2 : M ≤ 9223372036854775807) (w : World)
    (hA : (Kd.int .i64).C w Aa M at_) (hC : (Kd.int .u8).C w Al n (ints m)) (hcl : n ≤ cl) :
    Calls Tryd.prog 27 #[.agg #[.bool r, .int .i64 vv, .slice Aa M ca, .slice Ar R cr], .slice Al n cl, .int .i64 (v : Int)] w fun e w' => ∃ u, e = .returned u ∧ (Kd.int .u8).R 5 w' w.heap.size (fun _ => True) u (ints (partl m at_ v)) ∧ Below w.heap.size w w' := by
  obtain ⟨W0, hW0⟩ : ∃ W0, w.alloc (.cells #[.bool r, .int .i64 vv, .slice Aa M ca, .slice Ar R cr] 49) = W0 := ⟨_, rfl⟩
  have hB0 : Below w.heap.size w W0 := by rw [← hW0]; exact below_alloc (Below.refl _ _) _
  have hbox : W0.heap[w.heap.size]? = some (.cells #[.bool r, .int .i64 vv, .slice Aa M ca, .slice Ar R cr] 49 (0, 0)) := by rw [← hW0]; exact heap_alloc_new w _
  have hcode := Code_any m hm Al cl W0 (by rw [hn]; exact Kd.C_below hC hB0) (by rw [hn]; exact hcl) (by omega)
  rw [hn] at hcode
  obtain ⟨L, hL⟩ : ∃ L, n + 6 = L := ⟨_, rfl⟩
  obtain ⟨K, hK⟩ : ∃ K, 4 * L = K := ⟨_, rfl⟩
  have hkl : (code m).length = K := by rw [code_len, hn, hL, hK]
  have HH := Aside0.mk (And.intro hcode (And.intro hB0 (And.intro hbox (And.intro hA (And.intro hkl (And.intro hK (And.intro hL (And.intro hM hn))))))))
  clear hcode hB0 hbox hA hC hkl hK hL hM hn
  have hL4 : L ≤ 4102 := by have := HH.out.2.2.2.2.2.2.1; omega
  go_enter Tryd.func27, Tryd.ntmps27
  go_upto_region 1 with fail
  clear hW0
  refine wp_region_lit ?_
  refine wpList_plain rfl (fun _ hK => ?_)
  go_simp
  refine hK _ _ ?_
  clear hK
  refine wpList_step (fun K0 hK => ?_)
  go_simp
  go_at_call 20
  refine HH.out.1.mono ?_
  rintro e w1 ⟨u1, rfl, hR1, hB1⟩
  obtain ⟨A1, c1, e1, hc1, hC1⟩ := Kd.R_reads hR1
  rw [ints_len, HH.out.2.2.2.2.1] at e1 hc1 hC1
  subst e1
  have hpick := Pick_any (code m) v L K hv HH.out.2.2.2.2.1 HH.out.2.2.2.2.2.1.symm hL4 A1 c1 w1 hC1 hc1
  have H1 := Aside0.mk (And.intro hB1 hpick)
  clear hR1 hB1 hc1 hC1 hpick
  refine hK _ _ ?_
  clear hK K0
  go_upto_region 2 with (go_at_call 29; refine H1.out.2.mono ?_; rintro e w2 ⟨u2, rfl, hR2, hB2⟩; have H2 := Aside0.mk (And.intro hR2 hB2); clear hR2 hB2)
  obtain ⟨A2, c2, e2, hc2, hC2⟩ := Kd.R_reads H2.out.1
  rw [ints_len, pickl_len] at e2 hc2 hC2
  subst e2
  have hB02 : Below W0.heap.size W0 w2 := H1.out.1.trans (H2.out.2.mono H1.out.1.size)
  have hBw2 : Below w.heap.size w w2 := HH.out.2.1.trans (hB02.mono HH.out.2.1.size)
  have hbox2 := below_cell_blk hB02 HH.out.2.2.1
  have hwk : IntKind.u64.wrap ((L : Nat) : Int) = (L : Int) := by rw [IntKind.wrap_u64]; omega
  have hL0 : ((L : Nat) : Int) ≠ 0 := by have := HH.out.2.2.2.2.2.2.1; omega
  have H3 := Aside0.mk (And.intro hBw2 (And.intro hbox2 (And.intro hC2 (And.intro hc2 (Kd.C_below HH.out.2.2.2.1 hBw2)))))
  clear hC2 hc2 hB02 hBw2 hbox2
  go_wp2_with fail
  go_loopw [8, 9] (fun o i wr => ∃ k : Nat, i = .int .i64 k ∧ k ≤ 30 ∧ k ≤ M ∧ (Kd.int .i64).R 3 wr w2.heap.size (fun _ => True) o (atl at_ L k) ∧ Below w2.heap.size w2 wr) (fun _ i _ => 30 - (intOf i).toNat)
  case atStart => exact ⟨0, rfl, by omega, by omega, Kd.R_nil _ _ _ _ _, Below.refl _ _⟩
  case round =>
    obtain ⟨k, rfl, hk30, hkM, hR, hB⟩ := hrel
    have HR := Aside0.mk (And.intro hR hB)
    have hbx := below_cell_blk hB H3.out.2.1
    have M2 : wr.cell? ⟨w.heap.size, 2, none⟩ = some (.slice Aa M ca) := blk_cell hbx 2
    clear hR hbx
    by_cases h1 : k < M
    · have h1' : (k : Int) < (M : Int) := by omega
      by_cases h2 : k < 30
      · have h2' : (k : Int) < 30 := by omega
        have d1 : decide ((k : Int) < 30) = true := decide_eq_true h2'
        have d2 : decide (k < 30) = true := decide_eq_true h2
        obtain ⟨ad, hA, hcell⟩ := Kd.at_int (Kd.C_below H3.out.2.2.2.2 hB) (k : Int) (by omega) h1'
        cases hA
        have hkl : k < at_.length := by have := HH.out.2.2.2.2.2.2.2.1; omega
        rw [rd_at hkl, Int.toNat_natCast] at hcell
        have hnx := atl_next at_ L k hkl
        obtain ⟨x, hx⟩ : ∃ x, at_[k] = x := ⟨_, rfl⟩
        rw [hx] at hcell hnx
        obtain ⟨y, hy⟩ : ∃ y, wrap64 ((IntKind.u64.wrap x).tmod (L : Int)) = y := ⟨_, rfl⟩
        have hnx2 := hnx
        rw [hy] at hnx2
        have HN := Aside0.mk (And.intro hnx2 (atl_len at_ L k (by omega)))
        clear hnx hnx2 hx hB
        go_wp2_with (first | ((with_reducible refine gate_builtin (b := .append) (xs := #[.tmp 25, .tmp 37]) rfl ?_); at_builtin; refine Kd.R_append (Kd.int .i64) (w0 := w2) w2.heap.size rfl (.tmp 25) (.tmp 37) 22 3 (.int .i64 0) 8 rfl Tryd.underlying22 info3 rfl (by decide) (by omega) u8 (atl at_ L k) y [.int .i64 y] (fun _ => True) (fun _ => False) rfl rfl ?aP (fun _ hk => hk.elim) ?aF ?aO ?aB ?aS ?aL ?_; (case aP => exact rfl); (case aB => exact HR.out.2); (case aF => exact (fun _ _ => trivial)); (case aO => exact HR.out.1); (case aS => exact below_size HR.out.2); (case aL => rw [HN.out.2]; omega); intro v1 w7 ho hb hg hat; have HK := Aside0.mk (And.intro ho hb); clear ho hb hg hat))
        refine ⟨⟨k + 1, by go_num, by omega, by omega, ?_, HK.out.2⟩, by simp only [intOf]; omega⟩
        rw [HN.out.1]
        exact HK.out.1
      · have h2' : ¬ (k : Int) < 30 := by omega
        obtain rfl : k = 30 := by omega
        obtain ⟨A8, c8, e8, hc8, hC8⟩ := Kd.R_reads HR.out.1
        rw [atl_len at_ L 30 (by have := HH.out.2.2.2.2.2.2.2.1; omega)] at e8 hc8 hC8
        subst e8
        have ht := Turn_any (pickl (code m) v L) (pickl_bits (code_bits m) v L) (atl at_ L 30) A2 A8 c2 c8 L 30 wr (pickl_len _ _ _) (atl_len at_ L 30 (by have := HH.out.2.2.2.2.2.2.2.1; omega)) (by omega) (by omega) (Kd.C_below H3.out.2.2.1 HR.out.2) hC8 H3.out.2.2.2.1 hc8
        have hpe : turnN (pickl (code m) v L) (atl at_ L 30) L = partl m at_ v := by
          unfold partl
          rw [HH.out.2.2.2.2.2.2.2.2, HH.out.2.2.2.2.2.2.1, show min 30 at_.length = 30 by have := HH.out.2.2.2.2.2.2.2.1; omega]
        rw [hpe] at ht
        have HT := Aside0.mk ht
        clear ht hpe hc8 hC8 hB
        go_wp2_with (go_at_call 22; refine HT.out.mono ?_; rintro e w9 ⟨u9, rfl, hR9, hB9⟩; have H9 := Aside0.mk (And.intro hR9 hB9); clear hR9 hB9)
        go_ret
        have hbw := H3.out.1.trans (HR.out.2.mono H3.out.1.size)
        exact ⟨u9, rfl, Kd.R_lower H9.out.1 hbw.size, hbw.trans (H9.out.2.mono hbw.size)⟩
    · have h1' : ¬ (k : Int) < (M : Int) := by omega
      obtain rfl : k = M := by omega
      obtain ⟨A8, c8, e8, hc8, hC8⟩ := Kd.R_reads HR.out.1
      rw [atl_len at_ L k (by have := HH.out.2.2.2.2.2.2.2.1; omega)] at e8 hc8 hC8
      subst e8
      have ht := Turn_any (pickl (code m) v L) (pickl_bits (code_bits m) v L) (atl at_ L k) A2 A8 c2 c8 L k wr (pickl_len _ _ _) (atl_len at_ L k (by have := HH.out.2.2.2.2.2.2.2.1; omega)) (by omega) (by omega) (Kd.C_below H3.out.2.2.1 HR.out.2) hC8 H3.out.2.2.2.1 hc8
      have hpe : turnN (pickl (code m) v L) (atl at_ L k) L = partl m at_ v := by
        unfold partl
        rw [HH.out.2.2.2.2.2.2.2.2, HH.out.2.2.2.2.2.2.1, show min 30 at_.length = k by have := HH.out.2.2.2.2.2.2.2.1; omega]
      rw [hpe] at ht
      have HT := Aside0.mk ht
      clear ht hpe hc8 hC8 hB
      go_wp2_with (go_at_call 22; refine HT.out.mono ?_; rintro e w9 ⟨u9, rfl, hR9, hB9⟩; have H9 := Aside0.mk (And.intro hR9 hB9); clear hR9 hB9)
      go_ret
      have hbw := H3.out.1.trans (HR.out.2.mono H3.out.1.size)
      exact ⟨u9, rfl, Kd.R_lower H9.out.1 hbw.size, hbw.trans (H9.out.2.mono hbw.size)⟩
theorem eq4_same (a b c d : Int) (W : World) : (binOp .eql 47 (.agg #[.int .i64 a, .int .i64 b, .int .i64 c, .int .i64 d]) (.agg #[.int .i64 a, .int .i64 b, .int .i64 c, .int .i64 d])).run Tryd.prog W = .ok (.bool true) W := by
  obtain ⟨i0, hi, _⟩ := Option.map_eq_some_iff.1 info3
  have hc : Tryd.prog.cellsOf 3 = 1 := by kernel_rfl
  rw [run_eql_struct, run_equalIn_array W 9999 _ _ (Tryd.underlying47) hi, hc]
  have hr : List.range 4 = [0, 1, 2, 3] := rfl
  rw [hr]
  simp [Op.eqItems, go_sem, Tryd.underlying3]
theorem whole_at {m : List Nat} {n L : Nat} (hL : n + 6 = L) (hm : m.length = n) (hb : Bits m) (hn : n ≤ 4096) (vs : List Nat) (hv : ∀ v ∈ vs, v < 4) (h1 : vs ≠ []) (hl : vs.length ≤ 30) :
    (decOf (softs L (whole (code m) L vs))).1 = ints m ∧ (decOf (softs L (whole (code m) L vs))).2.2 = 0 := by
  subst hL
  exact whole_told hm hb hn vs hv h1 hl
/-- Versions from nought on. -/
def vsr : Nat → List Nat
  | 0 => []
  | k + 1 => k :: vsr k
def cks : Nat → Nat → Nat
  | 0 => fun _ => 0
  | k + 1 => bump (cks k) k
theorem cks_le : ∀ k i, cks k i ≤ k
  | 0, i => Nat.le_refl _
  | k + 1, i => by
    have h1 := cks_le k k
    have h2 := cks_le k i
    show bump (cks k) k i ≤ k + 1
    unfold bump
    split <;> omega
set_option maxHeartbeats 3200000 in
set_option maxRecDepth 100000 in
theorem combines_any (w : World) (ht : Taps w) : Calls Tryd.prog 26 #[] w fun e w' => e = .returned (.bool true) ∧ Below w.heap.size w w' := by
  have hb5 : Bits [1, 1, 0, 1, 0] := by unfold Bits; decide
  obtain ⟨c, hc⟩ : ∃ c, code [1, 1, 0, 1, 0] = c := ⟨_, rfl⟩
  have hcl : c.length = 44 := by rw [← hc, code_len]; rfl
  have hcb : Bits c := by rw [← hc]; exact code_bits _
  have htold := whole_at (L := 11) (m := [1, 1, 0, 1, 0]) (n := 5) rfl rfl hb5 (by decide) (vsr 4) (by decide) (by decide) (by decide)
  rw [hc] at htold
  obtain ⟨S4, hS4⟩ : ∃ S4, softs 11 (whole c 11 (vsr 4)) = S4 := ⟨_, rfl⟩
  rw [hS4] at htold
  have HT := Aside0.mk (And.intro ht (And.intro hc (And.intro hcl (And.intro hcb (And.intro htold (And.intro hb5 hS4))))))
  clear ht hc hcl hcb htold hb5 hS4
  go_enter Tryd.func26, Tryd.ntmps26
  go_upto_region 2 with fail
  obtain ⟨W1, hW1⟩ : ∃ W1, w.alloc (.cells #[.int .u8 1, .int .u8 1, .int .u8 0, .int .u8 1, .int .u8 0] 5) = W1 := ⟨_, rfl⟩
  have hl1 : W1.heap[w.heap.size]? = some (.cells ((ints [1, 1, 0, 1, 0]).map (Value.int .u8)).toArray 5 (0, 0)) := by rw [← hW1]; exact heap_alloc_new w _
  have hB1 : Below w.heap.size w W1 := by rw [← hW1]; exact below_alloc (Below.refl _ _) _
  have hs1 : W1.heap.size = w.heap.size + 1 := by rw [← hW1]; simp
  rw [hW1]
  have H1 := Aside0.mk (And.intro hl1 (And.intro hB1 hs1))
  clear hW1 hl1 hB1 hs1
  go_upto_region 3 with (go_at_call 25; refine (New_any 5 (by decide) _).mono ?_; rintro e w2 ⟨rfl, hI2, hB2⟩; have H2 := Aside0.mk (And.intro hI2 hB2); clear hI2 hB2)
  obtain ⟨b, hb⟩ : ∃ b, W1.heap.size = b := ⟨_, rfl⟩
  have hI2 := H2.out.1
  rw [hb] at hI2 ⊢
  have hbw : w.heap.size < b := by have := H1.out.2.2; omega
  have H3 := Aside0.mk (And.intro hI2 (And.intro (below_cell_blk H2.out.2 H1.out.1) (H1.out.2.1.trans (H2.out.2.mono H1.out.2.1.size))))
  clear hb hI2
  go_wp2_with fail
  go_loopw [4] (fun i wr => ∃ k : Nat, i = .int .i64 k ∧ k ≤ 4 ∧ IsBuf wr b (b + 1) 5 (softs 11 (whole c 11 (vsr k))) (cks k) ∧ wr.heap[w.heap.size]? = some (.cells ((ints [1, 1, 0, 1, 0]).map (Value.int .u8)).toArray 5 (0, 0)) ∧ Below w.heap.size w wr) (fun i _ => 4 - (intOf i).toNat)
  case atStart => exact ⟨0, rfl, by omega, H3.out.1, H3.out.2.1, H3.out.2.2⟩
  case round =>
    obtain ⟨k, rfl, hk, hI, hl, hB⟩ := hrel
    have HR := Aside0.mk (And.intro hI (And.intro hl hB))
    have hCl := C_block (k := .u8) (W := wr) (ints [1, 1, 0, 1, 0]) (by decide) hl
    have h5 : (ints [1, 1, 0, 1, 0]).length = 5 := rfl
    rw [h5] at hCl
    clear hI hl hB h5
    by_cases hk4 : k < 4
    · have hlt : (k : Int) < 4 := by omega
      have hcode := Code_any [1, 1, 0, 1, 0] HT.out.2.2.2.2.2.1 (some ⟨w.heap.size, 0, none⟩) 5 wr hCl (Nat.le_refl _) (by decide)
      rw [HT.out.2.1] at hcode
      have HC := Aside0.mk hcode
      clear hCl hcode
      go_wp2_with fail
      refine HC.out.mono ?_
      rintro e w4 ⟨u4, rfl, hR4, hB4⟩
      obtain ⟨A4, c4, e4, hc4, hC4⟩ := Kd.R_reads hR4
      rw [ints_len, HT.out.2.2.1] at e4 hc4 hC4
      subst e4
      have hpick := Pick_any c k 11 44 hk4 HT.out.2.2.1 rfl (by decide) A4 c4 w4 hC4 hc4
      have H4 := Aside0.mk (And.intro hB4 hpick)
      clear hR4 hB4 hc4 hC4 hpick
      go_wp2_with fail
      refine H4.out.2.mono ?_
      rintro e w5 ⟨u5, rfl, hR5, hB5⟩
      obtain ⟨A5, c5, e5, hc5, hC5⟩ := Kd.R_reads hR5
      rw [ints_len, pickl_len] at e5 hc5 hC5
      subst e5
      have hB45 := H4.out.1.trans (hB5.mono H4.out.1.size)
      have hadd := Add_ok w5 b (b + 1) 5 _ _ (HR.out.1.below hB45) k hk4 (Nat.le_trans (cks_le k k) (by omega)) (pickl c k 11) (pickl_bits HT.out.2.2.2.1 k 11) (pickl_len _ _ _) A5 c5 hC5 hc5
      have H5 := Aside0.mk (And.intro hB45 hadd)
      clear hR5 hB5 hc5 hC5 hadd hB45
      go_wp2_with fail
      refine H5.out.2.mono ?_
      rintro e w6 ⟨rfl, hI6, hC6⟩
      have H6 := Aside0.mk (And.intro hI6 hC6)
      clear hI6 hC6
      go_wp2_with fail
      have hB5w := HR.out.2.2.trans (H5.out.1.mono HR.out.2.2.size)
      refine ⟨⟨k + 1, by go_num, by omega, H6.out.1, ?_, ?_⟩, by simp only [intOf]; omega⟩
      · exact H6.out.2.keeps (below_cell_blk H5.out.1 HR.out.2.1) (by omega)
      · exact hB5w.trans (H6.out.2.below hB5w.size (fun i hi => by omega))
    · have hlt : ¬ (k : Int) < 4 := by omega
      obtain rfl : k = 4 := by omega
      have hI4 := HR.out.1
      rw [HT.out.2.2.2.2.2.2] at hI4
      have hdec := BDecode_any wr b (b + 1) 5 _ _ hI4 (HT.out.1.below HR.out.2.2)
      rw [HT.out.2.2.2.2.1.1, HT.out.2.2.2.2.1.2] at hdec
      have HD := Aside0.mk hdec
      have HCl := Aside0.mk hCl
      clear hdec hCl hI4
      go_upto_region 8 with (go_at_call 31; refine HD.out.mono ?_; rintro e w7 ⟨u7, rfl, hR7, hB7⟩; have H7 := Aside0.mk (And.intro hR7 hB7); clear hR7 hB7)
      obtain ⟨A7, c7, e7, hc7, hC7⟩ := Kd.R_reads H7.out.1
      have h5 : (ints [1, 1, 0, 1, 0]).length = 5 := rfl
      rw [h5] at e7 hc7 hC7
      subst e7
      have k1 : (convert 25 9 (.slice A7 5 c7)).run Tryd.prog w7 = .ok (.string (strOfNums (ints [1, 1, 0, 1, 0]))) w7 := Kd.C_string Tryd.underlying25 Tryd.underlying5 Tryd.underlying9 hC7
      have k2 : (convert 25 9 (.slice (some ⟨w.heap.size, 0, none⟩) 5 5)).run Tryd.prog w7 = .ok (.string (strOfNums (ints [1, 1, 0, 1, 0]))) w7 := Kd.C_string Tryd.underlying25 Tryd.underlying5 Tryd.underlying9 (Kd.C_below HCl.out H7.out.2)
      obtain ⟨S, hS⟩ : ∃ S, strOfNums (ints [1, 1, 0, 1, 0]) = S := ⟨_, rfl⟩
      rw [hS] at k1 k2
      have hcnt := BCounts_any w7 b (b + 1) 5 _ _ (HR.out.1.below H7.out.2)
      have hc0 : cks 4 0 = 1 ∧ cks 4 1 = 1 ∧ cks 4 2 = 1 ∧ cks 4 3 = 1 := by decide
      rw [hc0.1, hc0.2.1, hc0.2.2.1, hc0.2.2.2] at hcnt
      have HCN := Aside0.mk hcnt
      have heq := eq4_same 1 1 1 1
      clear hS hcnt hc0 hc7 hC7 h5
      go_wp2_with (go_at_call 35; refine HCN.out.mono ?_; rintro e w8 ⟨rfl, hB8⟩; have H8 := Aside0.mk hB8; clear hB8)
      go_ret
      have hw7 := HR.out.2.2.trans (H7.out.2.mono HR.out.2.2.size)
      exact ⟨rfl, hw7.trans (H8.out.mono hw7.size)⟩
end Go.Proofs.YticiilolmkbncaaDoor.Vit
