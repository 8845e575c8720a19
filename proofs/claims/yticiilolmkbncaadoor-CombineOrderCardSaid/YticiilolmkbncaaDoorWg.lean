/- The law CombineOrder: in whatever order versions come, the numbers are the same: its walk. Each theorem says its own conditions. -/
import Derived.Test.YticiilolmkbncaaDoorWf
import Derived.Deep.CutRange
import Derived.BigRegion
namespace Go.Proofs.YticiilolmkbncaaDoor.Vit
open Go.RowKit Go.Proofs.YticiilolmkbncaaDoorW.PrintWords Go.Proofs.YticiilolmkbncaaDoorW.PrintLast Go.Proofs.YticiilolmkbncaaDoorW.PrintMore Go.Proofs.YticiilolmkbncaaDoor.Mem
attribute [local go_sem] max2_int min2_int max_two min_two max_three min_three max_four min_four   -- for this text's walks alone
set_option linter.unusedVariables false
set_option linter.unusedSimpArgs false

theorem R_chg {k : IntKind} {e : Nat} {S ok : Nat → Prop} {w w' : World} {base : Nat} {v : Value} {xs : List Int} (h : (Kd.int k).R e w base ok v xs) (hc : Chg S w w') (hS : ∀ b, ok b → ¬ S b) : (Kd.int k).R e w' base ok v xs :=
  Kd.R_step h (fun b hb hl => hc.block b hl (hS b hb))
/-- Both buffers, behind what came. -/
structure Two (m : List Nat) (n b b2 : Nat) (A1 : Option Addr) (w wr : World) (ra rb : List (Nat × List Nat)) : Prop where
  one : IsBuf wr b (b + 1) n (softs (n + 6) ra) (fun i => cnt i ra)
  two : IsBuf wr b2 (b2 + 1) n (softs (n + 6) rb) (fun i => cnt i rb)
  list : (Kd.int .u8).C wr A1 n (ints m)
  below : Below w.heap.size w wr
theorem Two.chg {m : List Nat} {n b b2 : Nat} {A1 : Option Addr} {w wr w' : World} {ra rb : List (Nat × List Nat)} (h : Two m n b b2 A1 w wr ra rb) (hA : ∀ ad, A1 = some ad → ad.block < b) (hw : w.heap.size ≤ b) (hb : b + 2 ≤ b2) {S : Nat → Prop} (hc : Chg S wr w') (hS : ∀ i, S i → b2 + 2 ≤ i) : Two m n b b2 A1 w w' ra rb :=
  ⟨h.one.chg hc (fun e => by have := hS _ e; omega) (fun e => by have := hS _ e; omega), h.two.chg hc (fun e => by have := hS _ e; omega) (fun e => by have := hS _ e; omega),
    C_chg h.list hc (fun ad had e => by have := hS _ e; have := hA ad had; omega), h.below.trans (hc.below h.below.size (fun i hi => by have := hS i hi; omega))⟩
theorem Two.full {m : List Nat} {n b b2 : Nat} {A1 : Option Addr} {w wr w' : World} {ra rb : List (Nat × List Nat)} (h : Two m n b b2 A1 w wr ra rb) (hB : Below wr.heap.size wr w') : Two m n b b2 A1 w w' ra rb :=
  ⟨h.one.below hB, h.two.below hB, Kd.C_below h.list hB, h.below.trans (hB.mono h.below.size)⟩
/-- A version comes to the first buffer, or to the second one. -/
theorem Two.addA {m : List Nat} {n b b2 v : Nat} {p : List Nat} {A1 : Option Addr} {w wr w' : World} {ra rb : List (Nat × List Nat)} (h : Two m n b b2 A1 w wr ra rb) (hA : ∀ ad, A1 = some ad → ad.block < b) (hw : w.heap.size ≤ b) (hb : b + 2 ≤ b2)
    (hI : IsBuf w' b (b + 1) n (addv (softs (n + 6) ra) v p (n + 6)) (bump (fun i => cnt i ra) v)) (hc : Chg (fun k => k = b ∨ k = b + 1) wr w') : Two m n b b2 A1 w w' ((v, p) :: ra) rb :=
  ⟨by rw [bump_cnt] at hI; exact hI, h.two.chg hc (by omega) (by omega), C_chg h.list hc (fun ad had e => by have := hA ad had; omega), h.below.trans (hc.below h.below.size (fun i hi => by omega))⟩
theorem Two.addB {m : List Nat} {n b b2 v : Nat} {p : List Nat} {A1 : Option Addr} {w wr w' : World} {ra rb : List (Nat × List Nat)} (h : Two m n b b2 A1 w wr ra rb) (hA : ∀ ad, A1 = some ad → ad.block < b) (hw : w.heap.size ≤ b) (hb : b + 2 ≤ b2)
    (hI : IsBuf w' b2 (b2 + 1) n (addv (softs (n + 6) rb) v p (n + 6)) (bump (fun i => cnt i rb) v)) (hc : Chg (fun k => k = b2 ∨ k = b2 + 1) wr w') : Two m n b b2 A1 w w' ra ((v, p) :: rb) :=
  ⟨h.one.chg hc (by omega) (by omega), by rw [bump_cnt] at hI; exact hI, C_chg h.list hc (fun ad had e => by have := hA ad had; omega), h.below.trans (hc.below h.below.size (fun i hi => by omega))⟩
def lenV : Value → Nat
  | .slice _ l _ => l
  | _ => 0
theorem C_tail {k : IntKind} {w : World} {b o n c : Nat} {xs : List Int} (h : (Kd.int k).C w (some ⟨b, o, none⟩) n xs) (hc : n ≤ c) (j : Nat) (hj : j ≤ n) : (Kd.int k).C w (if c = j then some ⟨b, o, none⟩ else some ⟨b, o + j, none⟩) (n - j) (xs.drop j) := by
  have hl := Kd.C_len h
  by_cases h0 : n - j = 0
  · exact ⟨by rw [List.length_drop]; omega, by omega, fun hp => by omega⟩
  · rw [if_neg (by omega)]
    have hx : (xs.drop j).length = n - j := by rw [List.length_drop, hl]
    rw [← hx]
    obtain ⟨b', o', hA, hcell⟩ := row_formK h (by omega)
    injection hA with hA
    injection hA with h1 h2 h3
    subst h1 h2
    refine C_cells (xs.drop j) (by have := h.2.1; rw [hx]; omega) (fun i p hp => ?_)
    rw [List.getElem?_drop] at hp
    have hi : j + i < n := by
      have := (List.getElem?_eq_some_iff.1 hp).1
      omega
    have h4 := hcell (j + i) hi
    rw [List.getD_eq_getElem?_getD, hp, Option.getD_some] at h4
    rw [Nat.add_assoc]
    exact h4
/-- Numbers as a row. -/
def idx (l : List Nat) : List Int := l.map fun n : Nat => (n : Int)
theorem idx_len (l : List Nat) : (idx l).length = l.length := by simp [idx]
theorem idx_cut (lf : List Nat) (K : Nat) : idx (lf.take K ++ lf.drop (K + 1)) = ([] ++ (idx lf).take K) ++ (idx lf).drop (K + 1) := by
  unfold idx
  rw [List.map_append, List.map_take, List.map_drop, List.nil_append]
theorem cut_perm {tk lf : List Nat} {k K x : Nat} (h : (tk ++ lf).Perm (List.range k)) (hK : K < lf.length) (hx : lf.getD K 0 = x) : ((x :: tk) ++ (lf.take K ++ lf.drop (K + 1))).Perm (List.range k) := by
  refine .trans ?_ h
  have e : lf = lf.take K ++ x :: lf.drop (K + 1) := by
    rw [← hx, List.getD_eq_getElem?_getD, List.getElem?_eq_getElem hK, Option.getD_some, ← List.drop_eq_getElem_cons hK, List.take_append_drop]
  conv => rhs; rw [e]
  rw [← List.append_assoc tk]
  refine .trans ?_ (List.perm_middle.symm)
  rw [List.cons_append, ← List.append_assoc]
set_option maxHeartbeats 6400000 in
set_option maxRecDepth 100000 in
theorem order_any (A F G : Option Addr) (n0 c0 n1 c1 n2 c2 : Nat) (xs gs : List Int) (row : List (Bool × Int × List Int × List Int)) (w : World) (hA : (Kd.int .u8).C w A n0 xs) (hx : ∀ x ∈ xs, 0 ≤ x) (hc0 : n0 ≤ c0) (hn0 : n0 ≤ 140737488355327)
    (hF : DC.C w F n1 row) (hn1 : n1 ≤ 140737488355327) (hG : (Kd.int .i64).C w G n2 gs) (hn2 : n2 ≤ 140737488355327) (ht : Taps w) :
    Calls Tryd.prog 11 #[.slice A n0 c0, .slice F n1 c1, .slice G n2 c2] w fun e w' => e = .returned (.bool true) ∧ Below w.heap.size w w' := by
  have hfew := Few1_any xs hx A n0 c0 30 w hA hc0 hn0 (by decide)
  obtain ⟨m, hmm⟩ : ∃ m, few1 xs 30 = m := ⟨_, rfl⟩
  have hmb : Bits m := by rw [← hmm]; exact few1_bits _ _
  have hml : m.length ≤ 30 := by rw [← hmm, few1_len]; omega
  rw [hmm] at hfew
  obtain ⟨n, hn⟩ : ∃ n, m.length = n := ⟨_, rfl⟩
  rw [hn] at hml
  have HT := Aside0.mk (And.intro ht (And.intro hfew (And.intro hmb (And.intro hn (And.intro hF hG)))))
  clear hfew hmm hmb hn hF hG hA hx ht hc0 hn0
  go_enter Tryd.func11, Tryd.ntmps11
  go_upto_region 2 with (go_at_call 21; refine HT.out.2.1.mono ?_; rintro e w1 ⟨v1, rfl, hR1, hB1⟩; have H1 := Aside0.mk (And.intro hR1 hB1); clear hR1 hB1)
  obtain ⟨A1, c1', e1, hc1, hC1⟩ := Kd.R_reads H1.out.1
  rw [ints_len, HT.out.2.2.2.1] at e1 hc1 hC1
  subst e1
  have hA1b : ∀ ad, A1 = some ad → ad.block < w1.heap.size := fun ad had => ((Kd.R_bound H1.out.1).1 ad.block (by rw [had]; rfl)).2.2.1
  have HC1 := Aside0.mk (And.intro hC1 hA1b)
  clear hC1 hA1b
  go_upto_region 3 with (go_at_call 25; refine (New_any n (by omega) _).mono ?_; rintro e w2 ⟨rfl, hI2, hB2⟩; have H2 := Aside0.mk (And.intro hI2 hB2); clear hI2 hB2)
  go_upto_region 4 with (go_at_call 25; refine (New_any n (by omega) _).mono ?_; rintro e w3 ⟨rfl, hI3, hB3⟩; have H3 := Aside0.mk (And.intro hI3 hB3); clear hI3 hB3)
  obtain ⟨b, hb⟩ : ∃ b, w1.heap.size = b := ⟨_, rfl⟩
  obtain ⟨b2, hb2⟩ : ∃ b2, w2.heap.size = b2 := ⟨_, rfl⟩
  have hI2 := H2.out.1
  have hI3 := H3.out.1
  rw [hb] at hI2 ⊢
  rw [hb2] at hI3 ⊢
  have hbw : w.heap.size ≤ b := by have := H1.out.2.size; omega
  have hbb : b + 2 ≤ b2 := by have := blk_lt hI2.row; omega
  have hA1b : ∀ ad, A1 = some ad → ad.block < b := fun ad had => by have := HC1.out.2 ad had; omega
  have h3 : Two m n b b2 A1 w w3 [] [] := ⟨hI2.below H3.out.2, hI3, Kd.C_below (Kd.C_below HC1.out.1 H2.out.2) H3.out.2, H1.out.2.trans ((H2.out.2.trans (H3.out.2.mono H2.out.2.size)).mono H1.out.2.size)⟩
  have hcb := combines_any w3 (HT.out.1.below h3.below)
  have HB := Aside0.mk (And.intro hA1b (And.intro h3 hcb))
  clear hb hb2 hI2 hI3 hA1b h3 hcb
  go_upto_region 6 with (go_at_call 26; refine HB.out.2.2.mono ?_; rintro e w4 ⟨rfl, hB4⟩; have HB4 := Aside0.mk hB4; clear hB4)
  have h4 := HB.out.2.1.full HB4.out
  have H4 := Aside0.mk h4
  clear h4
  go_wp2_with fail
  go_loopw [11, 12, 13] (fun o i _ wr => ∃ k : Nat, i = .int .i64 k ∧ k ≤ 12 ∧ k ≤ n1 ∧ Two m n b b2 A1 w wr (rsq m row k) [] ∧ (Kd.int .i64).R 3 wr (b2 + 2) (fun j => b2 + 2 ≤ j) o (idx (List.range k))) (fun _ i _ _ => 12 - (intOf i).toNat)
  case atStart => exact ⟨0, rfl, by omega, by omega, H4.out, Kd.R_nil _ _ _ _ _⟩
  case round =>
    obtain ⟨k, rfl, hk12, hkn, hTw, hRo⟩ := hrel
    have HR := Aside0.mk (And.intro hTw hRo)
    clear hTw hRo
    go_upto_region 8 with fail
    go_cut [49] from 42 to 49 (fun s wx => s = .bool (decide (k < n1 ∧ k < 12)) ∧ wx = wr)
    case first =>
      by_cases h1 : k < n1
      · have h1' : (k : Int) < (n1 : Int) := by omega
        by_cases h2 : k < 12
        · have h2' : (k : Int) < 12 := by omega
          have d1 : decide ((k : Int) < 12) = true := decide_eq_true h2'
          have d2 : decide (k < 12) = true := decide_eq_true h2
          have D3 := Aside0.mk (show decide (k < n1 ∧ k < 12) = true from decide_eq_true ⟨h1, h2⟩)
          go_wp2_with fail
          go_meet
          exact ⟨by rw [D3.out], rfl⟩
        · have h2' : ¬ (k : Int) < 12 := by omega
          have d1 : decide ((k : Int) < 12) = false := decide_eq_false h2'
          have d2 : decide (k < 12) = false := decide_eq_false h2
          have D3 := Aside0.mk (show decide (k < n1 ∧ k < 12) = false from decide_eq_false (fun h => h2 h.2))
          go_wp2_with fail
          go_meet
          exact ⟨by rw [D3.out], rfl⟩
      · have h1' : ¬ (k : Int) < (n1 : Int) := by omega
        have D3 := Aside0.mk (show decide (k < n1 ∧ k < 12) = false from decide_eq_false (fun h => h1 h.1))
        go_wp2_with fail
        go_meet
        exact ⟨by rw [D3.out], rfl⟩
    case rest =>
      obtain ⟨rfl, rfl⟩ := hcut
      by_cases hk : k < n1 ∧ k < 12
      · rw [decide_eq_true hk]
        obtain ⟨hkn1, hk12'⟩ := hk
        obtain ⟨ad, r, vv, at_, raw, Aa, ca, Ar, cr, hF, hrow, hle, hCa, hle2, hCr, e0, e1, e2, e3⟩ := came_at HT.out.2.2.2.2.1 k hkn1
        subst hF
        have g0 := below_cell HR.out.1.below e0
        have g1 := below_cell HR.out.1.below e1
        have g2 := below_cell HR.out.1.below e2
        have g3 := below_cell HR.out.1.below e3
        have hrv : rcv m row k = (cv13 vv, partl m at_ (cv13 vv)) := by unfold rcv; rw [hrow]
        obtain ⟨v, hv⟩ : ∃ v, cv13 vv = v := ⟨_, rfl⟩
        have hv4 : v < 4 := by rw [← hv]; exact cv13_lt vv
        have hvi := cv13_is vv
        rw [hv] at hrv hvi
        have hpart := part_any m HT.out.2.2.1 n HT.out.2.2.2.1 (by omega) v hv4 r vv at_ Aa Ar A1 at_.length ca raw.length cr c1' rfl hle hCa.2.1 wc (Kd.C_below hCa HR.out.1.below) HR.out.1.list hc1
        have HP := Aside0.mk (And.intro hpart (And.intro hv4 hrv))
        have hw1 : wrap64 (v : Int) = (v : Int) := wrap64_in _ (by omega) (by omega)
        clear hCa hCr hrow hle hle2 e0 e1 e2 e3 hpart hv4 hv hrv
        go_upto_region 11 with fail
        go_upto_region 13 with (first | (go_at_call 27; refine HP.out.1.mono ?_; rintro e w5 ⟨u5, rfl, hR5, hB5⟩; obtain ⟨A5, c5, e5, hc5, hC5⟩ := Kd.R_reads hR5; rw [ints_len, partl_len, HT.out.2.2.2.1] at e5 hc5 hC5; subst e5; have H5 := Aside0.mk (And.intro hc5 (And.intro hC5 hB5)); clear hR5 hc5 hC5 hB5) | (go_at_call 28; refine (Add_ok w5 b (b + 1) n _ _ (HR.out.1.full H5.out.2.2).one v HP.out.2.1 (Nat.le_trans (cnt_le v _) (by rw [rsq_len]; omega)) (partl m at_ v) (partl_bits HT.out.2.2.1 at_ v) (by rw [partl_len, HT.out.2.2.2.1]) A5 c5 H5.out.2.1 H5.out.1).mono ?_; rintro e w6 ⟨rfl, hI6, hC6⟩; have H6 := Aside0.mk (And.intro hI6 hC6); clear hI6 hC6))
        have hTw6 : Two m n b b2 A1 w w6 (rsq m row (k + 1)) [] := by
          have h := (HR.out.1.full H5.out.2.2).addA HB.out.1 hbw hbb H6.out.1 H6.out.2
          show Two m n b b2 A1 w w6 (rcv m row k :: rsq m row k) []
          rw [HP.out.2.2]
          exact h
        have hR6 := R_chg (Kd.R_below HR.out.2 H5.out.2.2) H6.out.2 (fun j hj e => by omega)
        have hs6 : b2 + 2 ≤ w6.heap.size := by have := blk_lt hTw6.two.row; omega
        have H7 := Aside0.mk (And.intro hTw6 (And.intro hR6 hs6))
        clear hTw6 hR6 hs6
        go_wp2_with (first | ((with_reducible refine gate_builtin (b := .append) (xs := #[.tmp 71, .tmp 73]) rfl ?_); at_builtin; refine Kd.R_append (Kd.int .i64) (w0 := w6) (b2 + 2) rfl (.tmp 71) (.tmp 73) 22 3 (.int .i64 0) 8 rfl Tryd.underlying22 info3 rfl (by decide) (by omega) u11 (idx (List.range k)) (k : Int) [.int .i64 k] (fun j => b2 + 2 ≤ j) (fun _ => False) rfl rfl ?aP (fun _ hk => hk.elim) ?aF ?aO ?aB ?aS ?aL ?_; (case aP => exact rfl); (case aB => exact (Below.refl _ _)); (case aF => exact (fun j hj => Nat.le_trans H7.out.2.2 hj)); (case aO => exact H7.out.2.1); (case aS => exact H7.out.2.2); (case aL => rw [idx_len, List.length_range]; omega); intro v1 w7 ho hb hg hat; have HK := Aside0.mk (And.intro ho hb); clear ho hb hg hat))
        refine ⟨⟨k + 1, by go_num, by omega, by omega, H7.out.1.chg HB.out.1 hbw hbb (Chg.of_part HK.out.2) (fun i hi => hi), ?_⟩, by simp only [intOf]; omega⟩
        have e : idx (List.range (k + 1)) = idx (List.range k) ++ [(k : Int)] := by unfold idx; rw [List.range_succ, List.map_append]; rfl
        rw [e]
        exact HK.out.1
      · rw [decide_eq_false hk]
        clear hk
        obtain ⟨A9, c9, e9, hc9, hC9⟩ := Kd.R_reads HR.out.2
        rw [idx_len, List.length_range] at e9
        go_wp2_with fail
        go_loopw [11, 14, 15, 16, 17] (fun o i _ _ _ wr => ∃ (tk lf : List Nat) (A9 : Option Addr) (c9 : Nat), o = .slice A9 lf.length c9 ∧ i = .int .i64 (tk.length : Nat) ∧ (tk ++ lf).Perm (List.range k) ∧ Two m n b b2 A1 w wr (rsq m row k) (tk.map (rcv m row)) ∧ (Kd.int .i64).R 3 wr (b2 + 2) (fun j => b2 + 2 ≤ j) (.slice A9 lf.length c9) (idx lf)) (fun o _ _ _ _ _ => lenV o)
        case atStart =>
          refine ⟨[], List.range k, A9, c9, by rw [List.length_range]; exact e9, rfl, .refl _, HR.out.1, ?_⟩
          have h := HR.out.2
          rw [e9] at h
          rw [List.length_range]
          exact h
        case round =>
          clear HR e9 hc9 hC9
          obtain ⟨tk, lf, A9, c9, rfl, rfl, hperm, hTw, hRo⟩ := hrel
          have hlen := hperm.length_eq
          rw [List.length_append, List.length_range] at hlen
          have HR := Aside0.mk (And.intro hTw (And.intro hRo hperm))
          obtain ⟨q, hq⟩ : ∃ q, tk.length = q := ⟨_, rfl⟩
          obtain ⟨l, hl⟩ : ∃ l, lf.length = l := ⟨_, rfl⟩
          have hRo2 := hRo
          rw [hl] at hRo2
          obtain ⟨A9', c9', e9, hc9, hC9⟩ := Kd.R_reads hRo2
          rw [idx_len, hl] at e9 hC9 hc9
          injection e9 with ea eb ec
          subst ea ec
          have HQ := Aside0.mk (And.intro hq (And.intro hl (And.intro hC9 hc9)))
          rw [hq, hl] at hlen
          rw [hq, hl]
          clear hTw hRo hRo2 hperm hq hl hC9 hc9 eb
          by_cases hl0 : l = 0
          · subst hl0
            have hlf : lf = [] := List.length_eq_zero_iff.1 HQ.out.2.1
            have hpm := HR.out.2.2
            rw [hlf, List.append_nil] at hpm
            have hpr : (rsq m row k).Perm (tk.map (rcv m row)) := (rsq_perm m row k).trans (hpm.map (rcv m row)).symm
            have hsf := softs_perm (n + 6) hpr (by rw [rsq_len]; omega) (rsq_lt m row k)
            have hct : (fun i => cnt i (tk.map (rcv m row))) = fun i => cnt i (rsq m row k) := by funext i; exact (cnt_perm i hpr).symm
            have h1 := HR.out.1.one
            have h2 := HR.out.1.two
            rw [← hsf, hct] at h2
            obtain ⟨X, hX⟩ : ∃ X, softs (n + 6) (rsq m row k) = X := ⟨_, rfl⟩
            obtain ⟨cs, hcs⟩ : ∃ cs : Nat → Nat, (fun i => cnt i (rsq m row k)) = cs := ⟨_, rfl⟩
            have hXl : X.length = 4 * (n + 6) := by rw [← hX, softs_len]
            rw [hX, hcs] at h1 h2
            obtain ⟨K4, hK4⟩ : ∃ K4, X.length = K4 := ⟨_, rfl⟩
            have hK4n : K4 ≤ 20000 := by omega
            have HX := Aside0.mk (And.intro h1 (And.intro h2 (And.intro hK4 HR.out.1.below)))
            have hs1 := BSoft_any wr b (b + 1) n X cs h1
            have HS1 := Aside0.mk hs1
            clear hlf hpm hpr hsf hct h1 h2 hX hcs hXl hK4 hs1
            go_upto_region 25 with fail
            go_wp2_with (first | (go_at_call 34; (with_reducible refine HS1.out.mono ?_); rintro e w5 ⟨u5, rfl, hR5, hB5⟩; obtain ⟨A5, c5, e5, hc5, hC5⟩ := Kd.R_reads hR5; rw [HX.out.2.2.1] at e5 hc5 hC5; subst e5; have H5 := Aside0.mk (And.intro hC5 hB5); clear hR5 hc5 hC5 hB5) | (go_at_call 34; (with_reducible refine (BSoft_any w5 b2 (b2 + 1) n X cs (HX.out.2.1.below H5.out.2)).mono ?_); rintro e w6 ⟨u6', rfl, hR6, hB6⟩; obtain ⟨A6, c6, e6, hc6, hC6⟩ := Kd.R_reads hR6; rw [HX.out.2.2.1] at e6 hc6 hC6; subst e6; have H6 := Aside0.mk (And.intro hC6 hB6); clear hR6 hc6 hC6 hB6) | (go_at_call 33; (with_reducible refine (Same_any X A5 A6 K4 c5 c6 w6 (Kd.C_below H5.out.1 H6.out.2) H6.out.1 (by omega)).mono ?_); rintro e w7 ⟨rfl, q7, hw7⟩; have H7 := Aside0.mk (show Below w6.heap.size w6 w7 by rw [hw7]; exact pw_below_drewN (Below.refl _ _) q7); clear hw7) | (go_at_call 35; (with_reducible refine (BCounts_any w7 b (b + 1) n X cs (((HX.out.1.below H5.out.2).below H6.out.2).below H7.out)).mono ?_); rintro e w8 ⟨rfl, hB8⟩; have H8 := Aside0.mk hB8; clear hB8) | (go_at_call 35; (with_reducible refine (BCounts_any w8 b2 (b2 + 1) n X cs ((((HX.out.2.1.below H5.out.2).below H6.out.2).below H7.out).below H8.out)).mono ?_); rintro e w9 ⟨rfl, hB9⟩; have H9 := Aside0.mk hB9; have heq := eq4_same (cs 0 : Nat) (cs 1 : Nat) (cs 2 : Nat) (cs 3 : Nat); clear hB9))
            go_ret
            have b5 := HX.out.2.2.2.trans (H5.out.2.mono HX.out.2.2.2.size)
            have b6 := b5.trans (H6.out.2.mono b5.size)
            have b7 := b6.trans (H7.out.mono b6.size)
            have b8 := b7.trans (H8.out.mono b7.size)
            exact ⟨rfl, b8.trans (H9.out.mono b8.size)⟩
          · have hl1 : (0 : Int) < (l : Int) := by omega
            have hl12 : l ≤ 12 := by omega
            go_upto_if 83 with fail
            go_cut [15] from 75 to 93 (fun s wx => (∃ K : Nat, K < l ∧ s = .int .i64 (K : Nat)) ∧ wx = wr)
            case first =>
              by_cases hqn : q < n2
              · have hqn' : (q : Int) < (n2 : Int) := by omega
                obtain ⟨ad, hA, hcell⟩ := Kd.at_int (Kd.C_below HT.out.2.2.2.2.2 HR.out.1.below) (q : Int) (by omega) hqn'
                cases hA
                rw [Int.toNat_natCast] at hcell
                obtain ⟨x, hx⟩ : ∃ x, rd gs (q : Int) = x := ⟨_, rfl⟩
                rw [hx] at hcell
                have h0 : 0 ≤ IntKind.u64.wrap x := by have := IntKind.wrap_u64 x; omega
                obtain ⟨K, hK, hKl⟩ : ∃ K : Nat, (IntKind.u64.wrap x).tmod (l : Int) = (K : Int) ∧ K < l := by
                  refine ⟨((IntKind.u64.wrap x).tmod (l : Int)).toNat, ?_, ?_⟩
                  · rw [Int.tmod_eq_emod_of_nonneg h0]
                    have := Int.emod_nonneg (IntKind.u64.wrap x) (show (l : Int) ≠ 0 by omega)
                    omega
                  · rw [Int.tmod_eq_emod_of_nonneg h0]
                    have h1 := Int.emod_nonneg (IntKind.u64.wrap x) (show (l : Int) ≠ 0 by omega)
                    have h2 := Int.emod_lt_of_pos (IntKind.u64.wrap x) hl1
                    omega
                have hl0' : ((l : Nat) : Int) ≠ 0 := by omega
                have hb3 : -9223372036854775808 ≤ (K : Int) ∧ (K : Int) ≤ 9223372036854775807 := by omega
                have HKl := Aside0.mk hKl
                have hwk : IntKind.u64.wrap ((l : Nat) : Int) = (l : Int) := by rw [IntKind.wrap_u64]; omega
                have hwi : wrap64 (K : Int) = (K : Int) := wrap64_in _ hb3.1 hb3.2
                clear hx h0 hKl hb3 hlen
                go_wp2_with fail
                go_meet
                exact ⟨⟨K, HKl.out, congrArg (Value.int .i64) hwi⟩, rfl⟩
              · have hqn' : ¬ (q : Int) < (n2 : Int) := by omega
                have HL0 := Aside0.mk hl0
                go_wp2_with fail
                go_meet
                exact ⟨⟨0, by have := HL0.out; omega, rfl⟩, rfl⟩
            case rest =>
              obtain ⟨⟨K, hKl, rfl⟩, rfl⟩ := hcut
              obtain ⟨b9, o9, hA9, hc9⟩ := row_formK HQ.out.2.2.1 (by omega)
              subst hA9
              have hKlf : K < lf.length := by have := HQ.out.2.1; omega
              have hq12 : q ≤ 12 := by omega
              obtain ⟨x, hx⟩ : ∃ x, lf[K] = x := ⟨_, rfl⟩
              have hgx : (idx lf).getD K 0 = (x : Int) := by
                unfold idx
                rw [List.getD_eq_getElem?_getD, List.getElem?_map, List.getElem?_eq_getElem hKlf, hx]
                rfl
              have k9 : wc.cell? ⟨b9, o9 + K, none⟩ = some (.int .i64 (x : Int)) := by rw [← hgx]; exact hc9 K hKl
              have hxk : x < k := by
                have h1 : x ∈ lf := by rw [← hx]; exact List.getElem_mem hKlf
                exact List.mem_range.1 (HR.out.2.2.mem_iff.1 (List.mem_append.2 (Or.inr h1)))
              obtain ⟨ad, r, vv, at_, raw, Aa, ca, Ar, cr, hF, hrow, hle, hCa, hle2, hCr, e0, e1, e2, e3⟩ := came_at HT.out.2.2.2.2.1 x (by omega)
              subst hF
              have g0 := below_cell HR.out.1.below e0
              have g1 := below_cell HR.out.1.below e1
              have g2 := below_cell HR.out.1.below e2
              have g3 := below_cell HR.out.1.below e3
              have hrv : rcv m row x = (cv13 vv, partl m at_ (cv13 vv)) := by unfold rcv; rw [hrow]
              obtain ⟨v, hv⟩ : ∃ v, cv13 vv = v := ⟨_, rfl⟩
              have hv4 : v < 4 := by rw [← hv]; exact cv13_lt vv
              have hvi := cv13_is vv
              rw [hv] at hrv hvi
              obtain ⟨W0, hW0⟩ : ∃ W0, wc.alloc (.cells #[.bool r, .int .i64 vv, .slice Aa at_.length ca, .slice Ar raw.length cr] 49) = W0 := ⟨_, rfl⟩
              have hB0 : Below wc.heap.size wc W0 := by rw [← hW0]; exact below_alloc (Below.refl _ _) _
              have hbox : W0.heap[wc.heap.size]? = some (.cells #[.bool r, .int .i64 vv, .slice Aa at_.length ca, .slice Ar raw.length cr] 49 (0, 0)) := by rw [← hW0]; exact heap_alloc_new wc _
              have hTw0 := HR.out.1.full hB0
              have hpart := part_any m HT.out.2.2.1 n HT.out.2.2.2.1 (by omega) v hv4 r vv at_ Aa Ar A1 at_.length ca raw.length cr c1' rfl hle hCa.2.1 W0 (Kd.C_below (Kd.C_below hCa HR.out.1.below) hB0) hTw0.list hc1
              have hx' : lf.getD K 0 = x := by rw [List.getD_eq_getElem?_getD, List.getElem?_eq_getElem hKlf, hx]; rfl
              have HP := Aside0.mk (And.intro hpart (And.intro hv4 (And.intro hrv (And.intro hTw0 (And.intro hB0 (And.intro hKlf (And.intro hx' hKl)))))))
              have M0 : W0.cell? ⟨wc.heap.size, 0, none⟩ = some (.bool r) := blk_cell hbox 0
              have M1 : W0.cell? ⟨wc.heap.size, 1, none⟩ = some (.int .i64 vv) := blk_cell hbox 1
              have M2 : W0.cell? ⟨wc.heap.size, 2, none⟩ = some (.slice Aa at_.length ca) := blk_cell hbox 2
              have M3 : W0.cell? ⟨wc.heap.size, 3, none⟩ = some (.slice Ar raw.length cr) := blk_cell hbox 3
              have hxn : (x : Int) < (n1 : Int) := by omega
              have hKl' : (K : Int) < (l : Int) := by omega
              have hw1 : wrap64 (v : Int) = (v : Int) := wrap64_in _ (by omega) (by omega)
              clear hc9 hCa hCr hrow hle hle2 e0 e1 e2 e3 hpart hv4 hv hrv hgx hx hx' hxk hTw0 hB0 hbox hlen hKlf
              go_upto_region 22 with fail
              clear hW0 g0 g1 g2 g3 k9
              go_upto_region 24 with (first | (go_at_call 27; refine HP.out.1.mono ?_; rintro e w5 ⟨u5, rfl, hR5, hB5⟩; obtain ⟨A5, c5, e5, hc5, hC5⟩ := Kd.R_reads hR5; rw [ints_len, partl_len, HT.out.2.2.2.1] at e5 hc5 hC5; subst e5; have H5 := Aside0.mk (And.intro hc5 (And.intro hC5 hB5)); clear hR5 hc5 hC5 hB5) | (go_at_call 28; refine (Add_ok w5 b2 (b2 + 1) n _ _ (HP.out.2.2.2.1.full H5.out.2.2).two v HP.out.2.1 (Nat.le_trans (cnt_le v _) (by rw [List.length_map]; have := HQ.out.1; omega)) (partl m at_ v) (partl_bits HT.out.2.2.1 at_ v) (by rw [partl_len, HT.out.2.2.2.1]) A5 c5 H5.out.2.1 H5.out.1).mono ?_; rintro e w6 ⟨rfl, hI6, hC6⟩; have H6 := Aside0.mk (And.intro hI6 hC6); clear hI6 hC6))
              clear M0 M1 M2 M3
              have hTw6 : Two m n b b2 (A1) w w6 (rsq m row k) ((x :: tk).map (rcv m row)) := by
                have h := (HP.out.2.2.2.1.full H5.out.2.2).addB HB.out.1 hbw hbb H6.out.1 H6.out.2
                rw [List.map_cons, HP.out.2.2.1]
                exact h
              have hR6 := R_chg (Kd.R_below (Kd.R_below HR.out.2.1 HP.out.2.2.2.2.1) H5.out.2.2) H6.out.2 (fun j hj e => by omega)
              have hs6 : b2 + 2 ≤ w6.heap.size := by have := blk_lt hTw6.two.row; omega
              obtain ⟨A6, c6', e6, hc6, hC6⟩ := Kd.R_reads hR6
              rw [idx_len, HQ.out.2.1] at e6 hc6 hC6
              injection e6 with ea eb ec
              subst ea ec
              have hhead := head_row hC6 (show K ≤ l by omega)
              have htail := C_tail hC6 hc6 (K + 1) (by omega)
              obtain ⟨A10, hA10⟩ : ∃ A10, (if c9 = K + 1 then some (⟨b9, o9, none⟩ : Addr) else some ⟨b9, o9 + (K + 1), none⟩) = A10 := ⟨_, rfl⟩
              rw [hA10] at htail
              have hi3 : ∃ i : TypeInfo, Tryd.prog.info? 3 = some i ∧ i.size = 1 := by
                obtain ⟨i, hi, hz⟩ := Option.map_eq_some_iff.1 info3
                simp only [Prod.mk.injEq] at hz
                exact ⟨i, hi, hz.2.1⟩
              obtain ⟨i3, hi3a, hi3b⟩ := hi3
              have hcut := cut_from 22 3 .i64 Tryd.underlying22 hi3a 1 hi3b (some ⟨b9, o9, none⟩) l c9 ((K : Int) + 1) (by omega) (by omega)
              have hcutA : (if c9 = ((K : Int) + 1).toNat then some (⟨b9, o9, none⟩ : Addr) else (some (⟨b9, o9, none⟩ : Addr)).map (·.add (((K : Int) + 1).toNat * 1))) = A10 := by
                rw [show ((K : Int) + 1).toNat = K + 1 by omega, ← hA10]
                split
                · rfl
                · show some ((⟨b9, o9, none⟩ : Addr).add ((K + 1) * 1)) = _
                  rw [Nat.mul_one]
                  unfold Addr.add
                  simp
              rw [hcutA, show ((K : Int) + 1).toNat = K + 1 by omega] at hcut
              have hKc : (K : Int) ≤ (c9 : Int) := by omega
              have hbK : -9223372036854775808 ≤ (K : Int) + 1 ∧ (K : Int) + 1 ≤ 9223372036854775807 := by omega
              have H7 := Aside0.mk (And.intro hTw6 (And.intro hR6 (And.intro hs6 (And.intro hhead htail))))
              have hKK : IntKind.i64.wrap ((K : Int) + 1) = (K : Int) + 1 := IntWalk.i64_in _ hbK
              clear hTw6 hR6 hs6 hhead htail hA10 hi3a hi3b hcutA hC6 hc6 eb hbK
              go_region_law (first
                | (refine Kd.R_append_rows_step (Kd.int .i64) (w0 := w6) w6.heap.size (by rfl) _ _ _ _ (.int .i64 0) 8 (by rfl) Tryd.underlying22 info3 rfl (by decide) (by decide) (.slice (some ⟨w6.heap.size, 0, none⟩) 0 0) [] ((idx lf).take K) (some ⟨b9, o9, none⟩) K c9 (fun j => w6.heap.size ≤ j) (fun _ => False) (by rfl) (by rfl) (Kd.R_below (Kd.R_of_own (World.ownsRow_made w6 #[] 0 (Nat.le_refl _) (Nat.zero_le _) rfl) (fun k hk => by simp [Value.ownBlock] at hk; omega)) (below_drew (Below.refl _ _))) (Kd.C_below H7.out.2.2.2.1 (below_drew (below_alloc (Below.refl _ _) _))) (fun x cs h => h) (fun _ hk => hk.elim) (fun k hk => by simp at hk; omega) (below_drew (below_alloc (Below.refl _ _) _)) (by simp) (by simp; omega) ?_
                   intro v7 w7 hR7 hB7 hG7 hat7
                   have H8 := Aside0.mk (And.intro hR7 hB7)
                   clear hR7 hB7 hG7 hat7)
                | (refine Kd.R_append_rows_step (Kd.int .i64) (w0 := w6) w6.heap.size (by rfl) _ _ _ _ (.int .i64 0) 8 (by rfl) Tryd.underlying22 info3 rfl (by decide) (by decide) v7 ([] ++ (idx lf).take K) ((idx lf).drop (K + 1)) A10 (l - (K + 1)) (c9 - (K + 1)) (fun j => w6.heap.size ≤ j) (fun _ => False) (by rfl) (by rfl) H8.out.1 (Kd.C_below H7.out.2.2.2.2 H8.out.2) (fun x cs h => h) (fun _ hk => hk.elim) (fun k hk => Nat.le_trans H8.out.2.size hk) H8.out.2 H8.out.2.size (by simp [idx_len]; omega) ?_
                   intro v8 w8 hR8 hB8 hG8 hat8
                   have H9 := Aside0.mk (And.intro hR8 hB8)
                   clear hR8 hB8 hG8 hat8))
              obtain ⟨A8, c8, hv8⟩ := Kd.R_slice H9.out.1
              have hR8 := H9.out.1
              rw [hv8] at hR8 ⊢
              rw [← idx_cut lf K, idx_len] at hR8 ⊢
              have hll : (lf.take K ++ lf.drop (K + 1)).length < l := by
                have h1 := HQ.out.2.1
                have h2 := HP.out.2.2.2.2.2.1
                rw [List.length_append, List.length_take, List.length_drop]
                omega
              obtain ⟨lz, hlz⟩ : ∃ lz, lf.take K ++ lf.drop (K + 1) = lz := ⟨_, rfl⟩
              rw [hlz] at hR8 hll ⊢
              have HE := Aside0.mk (And.intro hR8 (And.intro hll hlz))
              clear hR8 hll hv8 hlz
              go_wp2_with fail
              refine ⟨?_, HE.out.2.1⟩
              refine ⟨x :: tk, lz, A8, c8, rfl, ?_, by rw [← HE.out.2.2]; exact cut_perm HR.out.2.2 HP.out.2.2.2.2.2.1 HP.out.2.2.2.2.2.2.1, H7.out.1.full H9.out.2, Kd.R_mono (Kd.R_lower HE.out.1 H7.out.2.2.1) (fun j hj => Nat.le_trans H7.out.2.2.1 hj)⟩
              rw [List.length_cons, HQ.out.1]
              go_num
end Go.Proofs.YticiilolmkbncaaDoor.Vit
