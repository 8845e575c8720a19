/- The walk of the law WheelActs: the wheel and the document's list side by side. Each theorem says its own conditions. -/
import Derived.Test.YtjiligngjlejmaaTf
import Derived.BigQuiet
namespace Go.Proofs.Ytjiligngjlejmaa.Vit
open Go.Shelf Go.RowKit Go.Proofs.YtjiligngjlejmaaW.PrintWords Go.Proofs.YtjiligngjlejmaaW.PrintLast Go.Proofs.YtjiligngjlejmaaW.PrintMore Go.Proofs.Ytjiligngjlejmaa.Mem Go.Proofs.Ytjiligngjlejmaa.Srt
attribute [local go_sem] max2_int min2_int max_two min_two max_three min_three max_four min_four   -- for this text's walks alone
set_option linter.unusedVariables false
set_option linter.unusedSimpArgs false

/-- An act: what, a number, in how many ticks. -/
abbrev DA : Kd (Int × Int × Int) := Kd.pair (Kd.int .i64) (Kd.pair (Kd.int .u16) (Kd.int .i64))
theorem act_at {w : World} {A : Option Addr} {n : Nat} {row : List (Int × Int × Int)} (h : DA.C w A n row) (hw : ∀ v ∈ row, (Lit.int .u16 v.2.1).wf = true) (i : Nat) (hi : i < n) :
    ∃ (ad : Addr) (what : Int) (z : Nat) (y : Int), A = some ad ∧ z < 65536 ∧ w.cell? (ad.add (i * 3)) = some (.int .i64 what) ∧
      w.cell? ⟨(ad.add (i * 3)).block, (ad.add (i * 3)).off + 1, none⟩ = some (.int .u16 (z : Int)) ∧ w.cell? ⟨(ad.add (i * 3)).block, (ad.add (i * 3)).off + 2, none⟩ = some (.int .i64 y) := by
  have hl := Kd.C_len h
  obtain ⟨ad, c, hA, hcl, hK, hcell⟩ := Kd.C_get h (0, 0, 0) (i : Int) (by omega) (by omega)
  obtain ⟨c0, c1, rfl, h0, c2, c3, rfl, h2, h3⟩ := hK
  have h0' : c0 = [.int .i64 (row.getD (i : Int).toNat (0, 0, 0)).1] := h0
  have h2' : c2 = [.int .u16 (row.getD (i : Int).toNat (0, 0, 0)).2.1] := h2
  have h3' : c3 = [.int .i64 (row.getD (i : Int).toNat (0, 0, 0)).2.2] := h3
  subst h0' h2' h3'
  have hm : row.getD (i : Int).toNat (0, 0, 0) ∈ row := by
    rw [Int.toNat_natCast, List.getD_eq_getElem?_getD, List.getElem?_eq_getElem (by omega)]
    exact List.getElem_mem _
  have hz : IntKind.u16.min ≤ (row.getD (i : Int).toNat (0, 0, 0)).2.1 ∧ (row.getD (i : Int).toNat (0, 0, 0)).2.1 ≤ IntKind.u16.max := by simpa [Lit.wf] using hw _ hm
  have q1 : IntKind.u16.min = 0 := by decide
  have q2 : IntKind.u16.max = 65535 := by decide
  rw [q1, q2] at hz
  have hsz : DA.sz = 3 := rfl
  rw [hsz] at hcell
  have e0 := hcell 0 _ rfl
  have e1 := hcell 1 _ rfl
  have e2 := hcell 2 _ rfl
  rw [add_field _ _ 1 (by omega)] at e1
  rw [add_field _ _ 2 (by omega)] at e2
  refine ⟨ad, _, (row.getD (i : Int).toNat (0, 0, 0)).2.1.toNat, _, hA, by omega, by simpa using e0, ?_, by simpa using e2⟩
  rw [show (((row.getD (i : Int).toNat (0, 0, 0)).2.1.toNat : Nat) : Int) = (row.getD (i : Int).toNat (0, 0, 0)).2.1 by omega]
  simpa using e1
theorem same_cell {W W' : World} {q : Nat} (h : Same (fun k => k = q) W W') {i : Nat} {v : Value} (hc : W.cell? ⟨q, i, none⟩ = some v) : W'.cell? ⟨q, i, none⟩ = some v := (World.cell?_of_block (w := W) (h q rfl)).trans hc
/-- What a round leaves: how many ticks are to come, and both wheels. -/
def Mid (K : Nat → Prop) (B b m d : Nat) (w wx : World) (i now : Nat) : Prop := ∃ n s l, n ≤ i ∧ l.length ≤ i ∧ Rel s l ∧ Pair K B b m d w wx n now now s l
theorem mod_u6 (x : Int) : ∃ v : Nat, v < 6 ∧ (IntKind.u64.wrap x).tmod 6 = (v : Int) := by
  have h0 : 0 ≤ IntKind.u64.wrap x := by have := IntKind.wrap_u64 x; omega
  refine ⟨((IntKind.u64.wrap x).tmod 6).toNat, ?_, ?_⟩ <;> (rw [Int.tmod_eq_emod_of_nonneg h0]; omega)
theorem mod_u40 (x : Int) : ∃ v : Nat, v < 40 ∧ (IntKind.u64.wrap x).tmod 40 = (v : Int) := by
  have h0 : 0 ≤ IntKind.u64.wrap x := by have := IntKind.wrap_u64 x; omega
  refine ⟨((IntKind.u64.wrap x).tmod 40).toNat, ?_, ?_⟩ <;> (rw [Int.tmod_eq_emod_of_nonneg h0]; omega)
theorem one_u40 (y : Int) : ∃ t : Nat, t ≤ 40 ∧ wrap64 (1 + wrap64 ((IntKind.u64.wrap y).tmod 40)) = (t : Int) := by
  obtain ⟨v, h1, h2⟩ := mod_u40 y
  refine ⟨1 + v, by omega, ?_⟩
  rw [h2, wrap64_in (v : Int) (by omega) (by omega), wrap64_in _ (by omega) (by omega)]
  omega
theorem tmod300 (z : Nat) : (z : Int).tmod 300 = ((z % 300 : Nat) : Int) := by rw [Int.tmod_eq_emod_of_nonneg (by omega)]; omega
set_option maxHeartbeats 6400000 in
set_option maxRecDepth 100000 in
theorem acts_any (w : World) (A : Option Addr) (n c : Nat) (row : List (Int × Int × Int)) (hC : DA.C w A n row) (hw : ∀ v ∈ row, (Lit.int .u16 v.2.1).wf = true) (hn : n ≤ 140737488351232) :
    Calls Try.prog 5 #[.slice A n c] w fun e w' => e = .returned (.bool true) ∧ Below w.heap.size w w' := by
  have HC := Aside0.mk (And.intro hC hw)
  clear hC hw
  go_enter Try.func5, Try.ntmps5
  go_upto_region 3 with (first
    | (go_at_call 7; refine (turns_walk _).mono ?_; rintro e w2 ⟨rfl, q1⟩; have A1 := Aside0.mk q1; clear q1)
    | (go_at_call 11; refine (none_w _).mono ?_; rintro e w2 ⟨rfl, rfl⟩)
    | (go_at_call 8; refine (nil_set _ _ _).mono ?_; rintro e w2 ⟨rfl, rfl⟩)
    | (go_at_call 12; refine (nil_drop _ _).mono ?_; rintro e w2 ⟨rfl, rfl⟩)
    | (go_at_call 9; refine (nil_tick _).mono ?_; rintro e w2 ⟨rfl, rfl⟩)
    | (go_at_call 13; refine (nil_now _).mono ?_; rintro e w2 ⟨rfl, rfl⟩)
    | (go_at_call 10; refine (nil_len _).mono ?_; rintro e w2 ⟨rfl, rfl⟩))
  go_wp2_with (go_at_call 6; refine (newS _).mono ?_; rintro e w3 ⟨b, m, rfl, q1, q2⟩; have A3 := Aside0.mk (And.intro q1 q2); clear q1 q2)
  have hP0 : Pair (fun _ => False) w2.heap.size b m w3.heap.size w2 (w3.alloc (.cells #[.int .i64 0, .slice none 0 0] 41)) 0 0 0 St.nil [] := by
    obtain ⟨q1, q2⟩ := A3.out
    have hs := q2.size
    have hb := below_alloc (Below.refl w3.heap.size w3) (.cells #[.int .i64 0, .slice none 0 0] 41)
    have hbl : b < w3.heap.size := by obtain ⟨X, h1, _⟩ := q1.1.blk; exact blk_lt h1
    have hml := q1.1.map.lt
    refine ⟨fun _ => 32, fun _ => False, q1.below hb, ⟨⟨_, blk_new _ _, Kd.R_nil _ _ _ _ _⟩, fun h => h⟩, fun _ _ => rfl, q2.trans (hb.mono hs), by rw [World.size_alloc]; omega, fun k hk => hk.elim, ⟨fun hw => ?_, hs⟩, fun _ _ => rfl, fun k hk => hk.elim⟩
    rcases hw with hw | hw | hw
    · omega
    · omega
    · have h2 : (32 : Nat) < 32 := hw
      omega
  have HP0 := Aside0.mk hP0
  clear hP0
  obtain ⟨B, hBB⟩ : ∃ B, w2.heap.size = B := ⟨_, rfl⟩
  obtain ⟨d, hdd⟩ : ∃ d, w3.heap.size = d := ⟨_, rfl⟩
  rw [hBB, hdd] at HP0
  rw [hdd]
  have HBB := Aside0.mk (And.intro hBB hdd)
  clear hBB hdd A3
  go_loopw [5] (fun x5 wr => ∃ i now : Nat, x5 = .int .i64 i ∧ i ≤ 40 ∧ now ≤ 40 * i ∧ Mid (fun _ => False) B b m d w2 wr i now) (fun x5 _ => 40 - natOf x5)
  case atStart => exact ⟨0, 0, rfl, by omega, by omega, 0, St.nil, [], Nat.le_refl _, Nat.le_refl _, Rel.nil, HP0.out⟩
  case round =>
    obtain ⟨i, now, rfl, hi, hnow, hM⟩ := hrel
    have HM := Aside0.mk hM
    clear hM
    by_cases hin : i < n ∧ i < 40
    · obtain ⟨hin1, hin2⟩ := hin
      have hi1 : (i : Int) < (n : Int) := by omega
      have hi2 : (i : Int) < 40 := by omega
      have hbw : Below w.heap.size w wr := by
        obtain ⟨_, _, _, _, _, _, own, okd, _, _, _, hB, hsz, _⟩ := HM.out
        have h1 := A1.out.size
        rw [← HBB.out.1] at hB
        exact A1.out.trans (hB.mono h1)
      obtain ⟨ad, what, z, y, rfl, hz, e0, e1, e2⟩ := act_at HC.out.1 HC.out.2 i hin1
      have d0 := below_cell hbw e0
      have d1 := below_cell hbw e1
      have d2 := below_cell hbw e2
      have HZ := Aside0.mk (And.intro hz (And.intro hi (And.intro hnow (And.intro hin1 hin2))))
      clear e0 e1 e2 hbw hz hi hnow hin1 hin2
      go_upto_region 9 with fail
      go_cut [63] (fun s63 wx => ∃ r : Nat, r < 6 ∧ s63 = .int .i64 r ∧ wx = wr.alloc (.cells #[.int .i64 what, .int .u16 (z : Int), .int .i64 y] 43))
      case first =>
        obtain ⟨r, hr, hr2⟩ := mod_u6 what
        go_wp2_with fail
        go_meet
        exact ⟨r, hr, rfl, rfl⟩
      case rest =>
        obtain ⟨r, hr6, rfl, rfl⟩ := hcut
        have b0 : (wr.alloc (.cells #[.int .i64 what, .int .u16 (z : Int), .int .i64 y] 43)).cell? ⟨wr.heap.size, 0, none⟩ = some (.int .i64 what) := by simp
        have b1 : (wr.alloc (.cells #[.int .i64 what, .int .u16 (z : Int), .int .i64 y] 43)).cell? ⟨wr.heap.size, 1, none⟩ = some (.int .u16 (z : Int)) := by simp
        have b2 : (wr.alloc (.cells #[.int .i64 what, .int .u16 (z : Int), .int .i64 y] 43)).cell? ⟨wr.heap.size, 2, none⟩ = some (.int .i64 y) := by simp
        have hM1 : Mid (fun k => k = wr.heap.size) B b m d w2 (wr.alloc (.cells #[.int .i64 what, .int .u16 (z : Int), .int .i64 y] 43)) i now := by
          obtain ⟨n', s, l, h1, h2, h3, h4⟩ := HM.out
          exact ⟨n', s, l, h1, h2, h3, h4.alloc _⟩
        obtain ⟨W1, hW1⟩ : ∃ W1, wr.alloc (.cells #[.int .i64 what, .int .u16 (z : Int), .int .i64 y] 43) = W1 := ⟨_, rfl⟩
        rw [hW1] at b0 b1 b2 hM1 ⊢
        obtain ⟨q, hq⟩ : ∃ q, wr.heap.size = q := ⟨_, rfl⟩
        rw [hq] at b0 b1 b2 hM1 ⊢
        have HM1 := Aside0.mk hM1
        clear hW1 hM1 hq HM d0 d1 d2
        have r1 := tmod300 z
        obtain ⟨a, ha⟩ : ∃ a, z % 300 = a := ⟨_, rfl⟩
        rw [ha] at r1
        have ha9 : a < 65536 := by omega
        have r2 : IntKind.u16.wrap (a : Int) = (a : Int) := by have := IntKind.wrap_u16 (a : Int); omega
        have r3 : wrap64 (a : Int) = (a : Int) := nat_in (by omega)
        clear ha
        go_upto_block 2 with fail
        go_cut [7] (fun s7 wx => ∃ N : Nat, N ≤ 40 ∧ s7 = .int .i64 N ∧ Mid (fun k => k = q) B b m d w2 wx (i + 1) now)
        case first =>
          go_upto_if 64 with fail
          go_cut [64] (fun s64 wx => s64 = .bool (decide (r ≤ 1)) ∧ wx = W1)
          case first =>
            by_cases h0 : r = 0
            · subst h0
              go_wp2_with fail
              go_meet
              exact ⟨rfl, rfl⟩
            · have h0' : ((r : Int) == 0) = false := by simp; omega
              go_wp2_with fail
              go_meet
              exact ⟨congrArg Value.bool (by rw [Bool.eq_iff_iff]; simp; omega), rfl⟩
          case rest =>
            obtain ⟨rfl, rfl⟩ := hcut
            obtain ⟨n', s, l, h1, h2, h3, h4⟩ := HM1.out
            have hi40 := HZ.out.2.1
            have hno := HZ.out.2.2.1
            have HP := Aside0.mk (And.intro h1 (And.intro h2 (And.intro h3 h4)))
            have hn9 : n' ≤ 1000000 := by omega
            have hl9 : l.length ≤ 1000000 := by omega
            have hno9 : now ≤ 1000000 := by omega
            clear h1 h2 h3 h4 hi40 hno
            by_cases hr01 : r ≤ 1
            · have hd1 : decide (r ≤ 1) = true := by simpa using hr01
              by_cases hy : 1 ≤ y ∧ y ≤ 1000
              · obtain ⟨k, rfl⟩ : ∃ k : Nat, y = (k : Int) := ⟨y.toNat, by omega⟩
                have hk : 1 ≤ k ∧ k ≤ 1000 := by omega
                have hy1 : (1 : Int) ≤ (k : Int) := hy.1
                have hy2 : (k : Int) ≤ 1000 := hy.2
                have hk9 : now + k ≤ 1000000000 := by omega
                clear hy
                have HS := Aside0.mk (pair_set HP.out.2.2.2 a k ha9 hk hn9 hno9)
                go_wp2_with (first
                  | (go_at_call 8; refine HS.out.mono ?_; rintro e w5 ⟨rfl, p1, p2⟩; have b1' := same_cell p2 b1; have b2' := same_cell p2 b2; have A5 := Aside0.mk (And.intro p1 p2); clear p1 p2)
                  | (go_at_call 14; refine (pair_docset A5.out.1 a k hl9 hk9).mono ?_; rintro e w6 ⟨rfl, p1, p2⟩; have A6 := Aside0.mk p1; clear p1 p2))
                go_meet
                refine ⟨0, by omega, rfl, n' + 1, _, _, Nat.succ_le_succ HP.out.1, ?_, HP.out.2.2.1.put a (now + k), A6.out⟩
                have := dropD_len a l
                have := HP.out.2.1
                rw [List.length_append]
                simp
                omega
              · have hbad : y < 1 ∨ 1000 < y := by omega
                have HS := Aside0.mk hbad
                by_cases hy1 : 1 ≤ y
                · have hy2 : ¬ y ≤ 1000 := by omega
                  clear hy hbad
                  go_wp2_with (go_at_call 8; refine (set_bad _ _ _ _ HS.out).mono ?_; rintro e w5 ⟨rfl, rfl⟩)
                  go_meet
                  exact ⟨0, by omega, rfl, n', s, l, Nat.le_succ_of_le HP.out.1, Nat.le_succ_of_le HP.out.2.1, HP.out.2.2.1, HP.out.2.2.2⟩
                · clear hy hbad
                  go_wp2_with (go_at_call 8; refine (set_bad _ _ _ _ HS.out).mono ?_; rintro e w5 ⟨rfl, rfl⟩)
                  go_meet
                  exact ⟨0, by omega, rfl, n', s, l, Nat.le_succ_of_le HP.out.1, Nat.le_succ_of_le HP.out.2.1, HP.out.2.2.1, HP.out.2.2.2⟩
            · have hd1 : decide (r ≤ 1) = false := by simpa using hr01
              by_cases hr2 : r = 2
              · subst hr2
                have HS := Aside0.mk (pair_drop HP.out.2.2.2 a ha9 hn9)
                have hany := HP.out.2.2.1.any a
                obtain ⟨g, hg⟩ : ∃ g, (s.f a).isSome = g := ⟨_, rfl⟩
                rw [hg] at HS hany
                have HG := Aside0.mk hany
                clear hany hg
                have hfin : ∀ wx, Pair (fun k => k = q) B b m d w2 wx n' now now (s.take1 a) (dropD a l) → ∃ N : Nat, N ≤ 40 ∧ Value.int .i64 0 = Value.int .i64 (N : Int) ∧ Mid (fun k => k = q) B b m d w2 wx (i + 1) now := fun wx hp =>
                  ⟨0, by omega, rfl, n', _, _, Nat.le_succ_of_le HP.out.1, Nat.le_succ_of_le (Nat.le_trans (dropD_len a l) HP.out.2.1), HP.out.2.2.1.take a, hp⟩
                have HF := Aside0.mk hfin
                clear hfin
                cases g
                · go_wp2_with (first
                    | (go_at_call 12; refine HS.out.mono ?_; rintro e w5 ⟨rfl, p1, p2⟩; have b1' := same_cell p2 b1; have A5 := Aside0.mk (And.intro p1 p2); clear p1 p2)
                    | (go_at_call 15; refine (pair_docdrop A5.out.1 a hl9).mono ?_; rintro e w6 ⟨he, p1, p2⟩; rw [← HG.out] at he; subst he; have A6 := Aside0.mk p1; clear p1 p2))
                  go_meet
                  exact HF.out _ A6.out
                · go_wp2_with (first
                    | (go_at_call 12; refine HS.out.mono ?_; rintro e w5 ⟨rfl, p1, p2⟩; have b1' := same_cell p2 b1; have A5 := Aside0.mk (And.intro p1 p2); clear p1 p2)
                    | (go_at_call 15; refine (pair_docdrop A5.out.1 a hl9).mono ?_; rintro e w6 ⟨he, p1, p2⟩; rw [← HG.out] at he; subst he; have A6 := Aside0.mk p1; clear p1 p2))
                  go_meet
                  exact HF.out _ A6.out
              · have hr2' : ((r : Int) == 2) = false := by simp; omega
                have hfin : ∀ N : Nat, N ≤ 40 → ∀ v, v = Value.int .i64 (N : Int) → ∃ N : Nat, N ≤ 40 ∧ v = Value.int .i64 (N : Int) ∧ Mid (fun k => k = q) B b m d w2 wc (i + 1) now := fun N hN v hv =>
                  ⟨N, hN, hv, n', s, l, Nat.le_succ_of_le HP.out.1, Nat.le_succ_of_le HP.out.2.1, HP.out.2.2.1, HP.out.2.2.2⟩
                have HF := Aside0.mk hfin
                clear hfin
                by_cases hr5 : r = 5
                · have hr5' : ((r : Int) == 5) = true := by simp; omega
                  clear r1 r2 r3 hr5
                  go_upto_region 24 with fail
                  go_wp2_with fail
                  go_meet
                  obtain ⟨t, ht, ht2⟩ := one_u40 y
                  exact HF.out t ht _ (by rw [ht2])
                · have hr5' : ((r : Int) == 5) = false := by simp; omega
                  go_wp2_with fail
                  go_meet
                  exact HF.out 1 (by omega) _ rfl
        case rest =>
          obtain ⟨N, hN, rfl, hM2⟩ := hcut
          have HM2 := Aside0.mk hM2
          clear hM2 b0 b1 b2 r1 r2 r3 ha9 hr6 HM1
          go_wp2_with fail
          go_loopw [10] (fun x10 wx => ∃ k : Nat, x10 = .int .i64 k ∧ k ≤ N ∧ Mid (fun k => k = q) B b m d w2 wx (i + 1) (now + k)) (fun x10 _ => N - natOf x10)
          case atStart => exact ⟨0, rfl, Nat.zero_le _, HM2.out⟩
          case round =>
            obtain ⟨k, rfl, hk, n', s, l, h1, h2, h3, h4⟩ := hrel
            have hi40 := HZ.out.2.2.2.2
            have hno := HZ.out.2.2.1
            by_cases hkN : k < N
            · have hkN' : (k : Int) < (N : Int) := by omega
              have hk9 : (k : Int) < 1000 := by omega
              have hmes : N - ((k : Int) + 1).toNat < N - (k : Int).toNat := by omega
              have HS := Aside0.mk (pair_tick h4 (by omega) (by omega) h3)
              obtain ⟨t, ht⟩ : ∃ t, now + k = t := ⟨_, rfl⟩
              have hnt : now + (k + 1) = t + 1 := by omega
              have ht9 : t ≤ 1000000 := by omega
              have hl9 : l.length ≤ 1000000 := by omega
              rw [ht] at HS
              obtain ⟨ds, hds⟩ : ∃ ds, srt (outs (t + 1) l) = ds := ⟨_, rfl⟩
              have hdl : ds.length ≤ 1000000 := by
                rw [← hds, srt_len]
                exact Nat.le_trans (outs_len _ _) hl9
              have HT := Aside0.mk (And.intro hmes (And.intro hnt (And.intro ht9 (And.intro hl9 (And.intro hds (And.intro h1 (And.intro h2 (And.intro hkN hdl))))))))
              rw [hds] at HS
              clear h1 h2 h3 h4 hi40 hno hmes hnt hds ht hkN hk hN ht9 hl9
              go_wp2_with (first
                | (go_at_call 9; refine HS.out.mono ?_; rintro e w5 ⟨u5, s', rfl, q1, q2, q3, q4, q5, q6⟩; obtain ⟨x5, c5, rfl⟩ := row_shape q1; have A5 := Aside0.mk (And.intro q1 (And.intro q2 (And.intro q3 (And.intro q5 q6)))); clear q1 q2 q3 q4 q5 q6)
                | (go_at_call 16; refine (pair_doctick A5.out.2.1 HT.out.2.2.2.1 HT.out.2.2.1).mono ?_; rintro e w6 ⟨A6, c6, he, q1, q2, q3, q4⟩; rw [HT.out.2.2.2.2.1] at he q1; subst he; have A6' := Aside0.mk (And.intro q1 (And.intro q2 q4)); clear q1 q2 q3 q4))
              have HQ6 := Aside0.mk (show (Kd.int .u16).Q 29 w6 wr.heap.size (fun k => wr.heap.size ≤ k) (.slice x5 ds.length c5) (ints ds) from Kd.Q_step A5.out.1 (fun i hi hlt => A6'.out.2.2.block i hlt (fun e => by have := A5.out.2.2.2.1; omega)))
              go_loopw [13] (fun x13 wx => ∃ j : Nat, x13 = .int .i64 j ∧ j ≤ ds.length ∧ Below w6.heap.size w6 wx) (fun x13 _ => ds.length - natOf x13)
              case atStart => exact ⟨0, rfl, Nat.zero_le _, Below.refl _ _⟩
              case round =>
                obtain ⟨j, rfl, hj, hB⟩ := hrel
                by_cases hjl : j < ds.length
                · have hjl' : (j : Int) < (ds.length : Int) := by omega
                  have hmes : ds.length - ((j : Int) + 1).toNat < ds.length - (j : Int).toNat := by omega
                  obtain ⟨g6, o6, c7, he, hc6⟩ := row_cell HQ6.out (by omega)
                  cases he
                  have hck := below_cell hB (hc6 j hjl)
                  obtain ⟨ad6, hA, hcell⟩ := Kd.at_int (Kd.C_below A6'.out.1 hB) (j : Int) (by omega) hjl'
                  cases hA
                  rw [Int.toNat_natCast] at hcell
                  obtain ⟨v, hv⟩ : ∃ v, ds[j] = v := ⟨_, rfl⟩
                  have hrd : rd (ints ds) (j : Int) = (v : Int) := by
                    unfold rd
                    rw [Int.toNat_natCast, List.getD_eq_getElem?_getD, List.getElem?_eq_getElem (by rw [ints_len]; exact hjl)]
                    simp [ints, hv]
                  have hv9 : v < 1000000000 := by
                    have := A5.out.2.2.2.2 ds[j] (List.getElem_mem _)
                    omega
                  rw [hrd] at hcell
                  rw [hv] at hck
                  have HB2 := Aside0.mk (And.intro hmes (And.intro hB hjl))
                  clear hmes hB hjl hj hrd hv hc6
                  have r3 := nat_in hv9
                  clear hv9
                  go_wp2_with fail
                  go_quiet (fail)
                  go_wp2_with fail
                  exact ⟨⟨j + 1, by congr 1, HB2.out.2.2, pw_below_drewN HB2.out.2.1 nq⟩, HB2.out.1⟩
                · have hje : j = ds.length := by omega
                  subst hje
                  have HB2 := Aside0.mk hB
                  clear hB hj hjl
                  go_wp2_with fail
                  obtain ⟨t1, t2, t3, t4, t5, t6, t7, t8, t9⟩ := HT.out
                  refine ⟨⟨k + 1, by congr 1, t8, n', s', lefts (t + 1) l, t6, Nat.le_trans (lefts_len _ _) t7, A5.out.2.2.1, ?_⟩, t1⟩
                  rw [t2]
                  exact A6'.out.2.1.below HB2.out
            · have hkN' : k = N := by omega
              subst hkN'
              obtain ⟨t, ht⟩ : ∃ t, now + k = t := ⟨_, rfl⟩
              rw [ht] at h4
              obtain ⟨Ad, cd, hd0, hd1⟩ := pair_cells h4
              have ht9 : t ≤ 40 * (i + 1) := by omega
              have HP := Aside0.mk (And.intro h1 (And.intro h2 (And.intro h3 (And.intro h4 ht9))))
              have hmes : 40 - ((i : Int) + 1).toNat < 40 - (i : Int).toNat := by omega
              have HE := Aside0.mk (And.intro hmes hi40)
              clear h1 h2 h3 h4 ht9 hmes hi40 hno ht hk hkN hN
              go_wp2_with fail
              go_quiet (first
                | (go_at_call 13; exact Calls.quiet_of_same (pair_now (HP.out.2.2.2.1.below (pw_below_drewN (Below.refl _ _) _))))
                | (go_at_call 10; exact Calls.quiet_of_same (pair_len (HP.out.2.2.2.1.below (pw_below_drewN (Below.refl _ _) _)) HP.out.2.2.1)))
              go_wp2_with fail
              obtain ⟨p1, p2, p3, p4, p5⟩ := HP.out
              exact ⟨⟨i + 1, t, by congr 1, HE.out.2, p5, n', s, l, p1, p2, p3, p4.free.below (pw_below_drewN (Below.refl _ _) nq)⟩, HE.out.1⟩
    · have hM2 := HM.out
      have hbw : Below w.heap.size w wr := by
        obtain ⟨_, _, _, _, _, _, own, okd, _, _, _, hB, hsz, _⟩ := HM.out
        have h1 := A1.out.size
        rw [← HBB.out.1] at hB
        exact A1.out.trans (hB.mono h1)
      have HF := Aside0.mk hbw
      clear hbw hM2 hnow hi
      by_cases hi1 : i < n
      · have hi2 : ¬ (i : Int) < 40 := by omega
        have hi3 : (i : Int) < (n : Int) := by omega
        clear hin hi1
        go_wp2_with fail
        go_ret
        exact ⟨rfl, HF.out⟩
      · have hi3 : ¬ (i : Int) < (n : Int) := by omega
        clear hin hi1
        go_wp2_with fail
        go_ret
        exact ⟨rfl, HF.out⟩
end Go.Proofs.Ytjiligngjlejmaa.Vit
