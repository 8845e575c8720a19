/- harq's small functions: a process in memory, within, right, begin, New, open: each theorem says its own conditions. -/
import Derived.Test.YtnejnnfjbhpigaaDoorCo
import Derived.Test.YtnejnnfjbhpigaaDoorWh
namespace Go.Proofs.YtnejnnfjbhpigaaDoor.Vit
open Go.RowKit Go.Proofs.YtnejnnfjbhpigaaDoorW.PrintWords Go.Proofs.YtnejnnfjbhpigaaDoorW.PrintLast Go.Proofs.YtnejnnfjbhpigaaDoorW.PrintMore Go.Proofs.YtnejnnfjbhpigaaDoor.Mem Go.Proofs.YtnejnnfjbhpigaaDoor.Crc
attribute [local go_sem] max2_int min2_int max_two min_two max_three min_three max_four min_four   -- for this text's walks alone
set_option linter.unusedVariables false
set_option linter.unusedSimpArgs false

open Go.Proofs.YtnejnnfjbhpigaaDoor.Chk
/-- A process in memory: its message's length, its buffer, how many versions came, whether it is done. -/
structure IsP (W : World) (pb b sb N : Nat) (xs : List Int) (cs : Nat → Nat) (came : Nat) (done : Bool) : Prop where
  blk : W.heap[pb]? = some (.cells #[.int .i64 (N : Int), .pointer (some ⟨b, 0, none⟩), .int .i64 (came : Int), .bool done] 56 (0, 0))
  buf : IsBuf W b sb (8 * (N + 4)) xs cs
  le : N ≤ 64
  few : came ≤ 16
  cnt : ∀ v, cs v ≤ came
theorem IsP.below {w w' : World} {pb b sb N : Nat} {xs : List Int} {cs : Nat → Nat} {came : Nat} {done : Bool} (h : IsP w pb b sb N xs cs came done) (hB : Below w.heap.size w w') : IsP w' pb b sb N xs cs came done := ⟨below_cell_blk hB h.blk, h.buf.below hB, h.le, h.few, h.cnt⟩
theorem IsP.chg {w w' : World} {S : Nat → Prop} {pb b sb N : Nat} {xs : List Int} {cs : Nat → Nat} {came : Nat} {done : Bool} (h : IsP w pb b sb N xs cs came done) (hC : Chg S w w') (h1 : ¬ S pb) (h2 : ¬ S b) (h3 : ¬ S sb) : IsP w' pb b sb N xs cs came done := ⟨hC.keeps h.blk h1, h.buf.chg hC h2 h3, h.le, h.few, h.cnt⟩
theorem IsP.ne {w : World} {pb b sb N : Nat} {xs : List Int} {cs : Nat → Nat} {came : Nat} {done : Bool} (h : IsP w pb b sb N xs cs came done) : pb ≠ b ∧ pb ≠ sb := ⟨blk_ne h.blk h.buf.blk (by decide), blk_ne h.blk h.buf.row (by decide)⟩
/-- What the process, its buffer and its row may turn. -/
def PS3 (pb b sb : Nat) : Nat → Prop := fun k => k = pb ∨ k = b ∨ k = sb
theorem hwithin_any (n : Int) (w : World) : Calls Tryd.prog 22 #[.int .i64 n] w fun e w' => e = .returned (.bool (decide (0 ≤ n ∧ n ≤ 64))) ∧ w = w' := by
  by_cases h0 : 0 ≤ n
  · have d0 : decide (0 ≤ n) = true := decide_eq_true h0
    by_cases h1 : n ≤ 64
    · have d1 : decide (n ≤ 64) = true := decide_eq_true h1
      rw [decide_eq_true ⟨h0, h1⟩]
      go_enter Tryd.func22, Tryd.ntmps22
      go_wp2
      go_ret
      exact ⟨rfl, rfl⟩
    · have d1 : decide (n ≤ 64) = false := decide_eq_false h1
      rw [decide_eq_false (fun h => h1 h.2)]
      go_enter Tryd.func22, Tryd.ntmps22
      go_wp2
      go_ret
      exact ⟨rfl, rfl⟩
  · have d0 : decide (0 ≤ n) = false := decide_eq_false h0
    rw [decide_eq_false (fun h => h0 h.1)]
    go_enter Tryd.func22, Tryd.ntmps22
    go_wp2
    go_ret
    exact ⟨rfl, rfl⟩
theorem fwithin_any (n : Nat) (hn : n ≤ 64) (w : World) : Calls Tryd.prog 76 #[.int .i64 (n : Int)] w fun e w' => e = .returned (.bool true) ∧ w = w' := by
  have h0 : (0 : Int) ≤ (n : Int) := by omega
  have h1 : (n : Int) ≤ 64 := by omega
  have d0 : decide ((0 : Int) ≤ (n : Int)) = true := decide_eq_true h0
  have d1 : decide ((n : Int) ≤ 64) = true := decide_eq_true h1
  have d2 : decide (n ≤ 64) = true := decide_eq_true hn
  go_enter Tryd.func76, Tryd.ntmps76
  go_wp2
  go_ret
  exact ⟨rfl, rfl⟩
theorem fBits_any (n : Nat) (hn : n ≤ 64) (w : World) : Calls Tryd.prog 49 #[.int .i64 (n : Int)] w fun e w' => e = .returned (.int .i64 ((8 * (n + 4) + 6 : Nat) : Int)) ∧ w = w' := by
  have hnb : (n : Int) ≤ 64 := by omega
  have hv := fun W => VBits_any (8 * (n + 4)) (by omega) W
  obtain ⟨M, hM⟩ : ∃ M, 8 * (n + 4) = M := ⟨_, rfl⟩
  rw [hM] at hv ⊢
  have hm : 8 * ((n : Int) + 4) = (M : Int) := by omega
  have HV := Aside0.mk hv
  have HW := Aside0.mk (fun W => fwithin_any n hn W)
  clear hv hM hn
  go_enter Tryd.func49, Tryd.ntmps49
  go_wp2_with (first
    | (go_at_call 76; refine (HW.out _).mono ?_; rintro e w1 ⟨rfl, rfl⟩)
    | (go_at_call 50; refine (HV.out _).mono ?_; rintro e w2 ⟨rfl, rfl⟩))
  go_ret
  exact ⟨rfl, rfl⟩
/-- What is told of a version that came. -/
def hErr (n v : Int) (p : List Int) : Int := if ¬ (0 ≤ n ∧ n ≤ 64) then 7 else if v < 0 ∨ 4 ≤ v then 1 else if (∃ x ∈ p, 1 < x) then 5 else if (p.length : Int) ≠ 8 * (n + 4) + 6 then 13 else 0
set_option maxHeartbeats 3200000 in
set_option maxRecDepth 100000 in
theorem hright_any (n v : Int) (p : List Int) (A : Option Addr) (m c : Nat) (w : World) (hC : (Kd.int .u8).C w A m p) (hc : m ≤ c) (hm : m ≤ 1000000) :
    Calls Tryd.prog 24 #[.int .i64 n, .int .i64 v, .slice A m c] w fun e w' => e = .returned (.int .i64 (hErr n v p)) ∧ Below w.heap.size w w' := by
  have hr := BRight_any p A m c w hC hc (by omega)
  have hl := Kd.C_len hC
  have hwi := fun W => hwithin_any n W
  clear hC hc
  unfold hErr
  by_cases h0 : 0 ≤ n ∧ n ≤ 64
  · rw [if_neg (fun h => h h0)]
    rw [decide_eq_true h0] at hwi
    obtain ⟨k, rfl⟩ : ∃ k : Nat, n = (k : Int) := ⟨n.toNat, by omega⟩
    have hk : k ≤ 64 := by omega
    have hf := fun W => fBits_any k hk W
    by_cases h1 : v < 0 ∨ 4 ≤ v
    · rw [if_pos h1]
      have HW := Aside0.mk hwi
      by_cases h2 : v < 0
      · have d1 : decide (v < 0) = true := decide_eq_true h2
        clear hr hl hwi h0 hk hf h1
        go_enter Tryd.func24, Tryd.ntmps24
        go_wp2_with (go_at_call 22; refine (HW.out _).mono ?_; rintro e w1 ⟨rfl, rfl⟩)
        go_ret
        exact ⟨rfl, Below.refl _ _⟩
      · have d1 : decide (v < 0) = false := decide_eq_false h2
        have h3 : 4 ≤ v := by omega
        have d2 : decide (4 ≤ v) = true := decide_eq_true h3
        clear hr hl hwi h0 hk hf h1
        go_enter Tryd.func24, Tryd.ntmps24
        go_wp2_with (go_at_call 22; refine (HW.out _).mono ?_; rintro e w1 ⟨rfl, rfl⟩)
        go_ret
        exact ⟨rfl, Below.refl _ _⟩
    · rw [if_neg h1]
      have h2 : ¬ v < 0 := by omega
      have h3 : ¬ 4 ≤ v := by omega
      have d1 : decide (v < 0) = false := decide_eq_false h2
      have d2 : decide (4 ≤ v) = false := decide_eq_false h3
      by_cases hx : ∃ x ∈ p, 1 < x
      · rw [if_pos hx]
        rw [decide_eq_true hx] at hr
        have HW := Aside0.mk (And.intro hwi hr)
        clear hr hl hwi h0 hk hf h1 hx
        go_enter Tryd.func24, Tryd.ntmps24
        go_wp2_with (first
          | (go_at_call 22; refine (HW.out.1 _).mono ?_; rintro e w1 ⟨rfl, rfl⟩)
          | (go_at_call 48; refine HW.out.2.mono ?_; rintro e w2 ⟨rfl, q2, hw2⟩; have H2 := Aside0.mk hw2; clear hw2))
        go_ret
        exact ⟨rfl, by rw [H2.out]; exact pw_below_drewN (Below.refl _ _) _⟩
      · rw [if_neg hx]
        rw [decide_eq_false hx] at hr
        obtain ⟨T, hT⟩ : ∃ T, 8 * (k + 4) + 6 = T := ⟨_, rfl⟩
        rw [hT] at hf
        have HW := Aside0.mk (And.intro hwi (And.intro hr hf))
        by_cases hmt : m = T
        · subst hmt
          rw [if_neg (by omega)]
          clear hr hl hwi h0 hk hf h1 hx hT
          go_enter Tryd.func24, Tryd.ntmps24
          go_wp2_with (first
            | (go_at_call 22; refine (HW.out.1 _).mono ?_; rintro e w1 ⟨rfl, rfl⟩)
            | (go_at_call 48; refine HW.out.2.1.mono ?_; rintro e w2 ⟨rfl, q2, hw2⟩; have H2 := Aside0.mk hw2; clear hw2)
            | (go_at_call 49; refine (HW.out.2.2 _).mono ?_; rintro e w3 ⟨rfl, rfl⟩))
          go_ret
          exact ⟨rfl, by rw [H2.out]; exact pw_below_drewN (Below.refl _ _) _⟩
        · rw [if_pos (by omega)]
          have hne : ((m : Int) == (T : Int)) = false := by rw [beq_eq_false_iff_ne]; omega
          have hne2 : ¬ (m : Int) = (T : Int) := by omega
          clear hr hl hwi h0 hk hf h1 hx hT hmt
          go_enter Tryd.func24, Tryd.ntmps24
          go_wp2_with (first
            | (go_at_call 22; refine (HW.out.1 _).mono ?_; rintro e w1 ⟨rfl, rfl⟩)
            | (go_at_call 48; refine HW.out.2.1.mono ?_; rintro e w2 ⟨rfl, q2, hw2⟩; have H2 := Aside0.mk hw2; clear hw2)
            | (go_at_call 49; refine (HW.out.2.2 _).mono ?_; rintro e w3 ⟨rfl, rfl⟩))
          go_ret
          exact ⟨rfl, by rw [H2.out]; exact pw_below_drewN (Below.refl _ _) _⟩
  · rw [if_pos h0]
    rw [decide_eq_false h0] at hwi
    have HW := Aside0.mk hwi
    clear hr hl hwi h0
    go_enter Tryd.func24, Tryd.ntmps24
    go_wp2_with (go_at_call 22; refine (HW.out _).mono ?_; rintro e w1 ⟨rfl, rfl⟩)
    go_ret
    exact ⟨rfl, Below.refl _ _⟩
end Go.Proofs.YtnejnnfjbhpigaaDoor.Vit

namespace Go.Proofs.YtnejnnfjbhpigaaDoor.Vit
open Go.RowKit Go.Proofs.YtnejnnfjbhpigaaDoorW.PrintWords Go.Proofs.YtnejnnfjbhpigaaDoorW.PrintLast Go.Proofs.YtnejnnfjbhpigaaDoorW.PrintMore Go.Proofs.YtnejnnfjbhpigaaDoor.Mem Go.Proofs.YtnejnnfjbhpigaaDoor.Crc
attribute [local go_sem] max2_int min2_int max_two min_two max_three min_three max_four min_four   -- for this text's walks alone
set_option linter.unusedVariables false
set_option linter.unusedSimpArgs false

open Go.Proofs.YtnejnnfjbhpigaaDoor.Chk
set_option maxHeartbeats 3200000 in
set_option maxRecDepth 100000 in
theorem begin_any (pb n : Nat) (x0 x1 x2 : Value) (done : Bool) (w : World) (h : w.heap[pb]? = some (.cells #[x0, x1, x2, .bool done] 56 (0, 0))) (hn : n ≤ 64) :
    Calls Tryd.prog 23 #[.pointer (some ⟨pb, 0, none⟩), .int .i64 (n : Int)] w fun e w' => e = .returned (.int .i64 0) ∧
      IsP w' pb w.heap.size (w.heap.size + 1) n (List.replicate (4 * (8 * (n + 4) + 6)) 0) (fun _ => 0) 0 done ∧ Chg (fun k => k = pb) w w' := by
  have hnew := New_any (8 * (n + 4)) (by omega) w
  obtain ⟨M, hM⟩ : ∃ M, 8 * (n + 4) = M := ⟨_, rfl⟩
  rw [hM] at hnew ⊢
  have hm : 8 * ((n : Int) + 4) = (M : Int) := by omega
  have hnb : (n : Int) ≤ 64 := by omega
  have hpl := blk_lt h
  have HH := Aside0.mk (And.intro h (And.intro hnew (And.intro hM (And.intro hn hpl))))
  clear h hnew hM hn hpl
  go_enter Tryd.func23, Tryd.ntmps23
  go_wp2_with (go_at_call 47; refine HH.out.2.1.mono ?_; rintro e w1 ⟨rfl, hI, hB⟩; have H1 := Aside0.mk (And.intro hI hB); have hbk := below_cell_blk hB HH.out.1; have f0 := blk_frozen hbk 0; have f1 := blk_frozen hbk 1; have f2 := blk_frozen hbk 2; have c0 := blk_cell hbk 0; have c1 := blk_cell hbk 1; have c2 := blk_cell hbk 2; simp at c0 c1 c2; have HBK := Aside0.mk hbk; clear hI hB hbk)
  go_ret
  have hs := HH.out.2.2.2.2
  have hC0 : Chg (fun k => k = pb) w w1 := Chg.of_below H1.out.2 _
  have hC := ((hC0.set_ (p := ⟨pb, 0, none⟩) (fun _ => rfl) (.int .i64 (n : Int))).set_ (p := ⟨pb, 1, none⟩) (fun _ => rfl) (.pointer (some ⟨w.heap.size, 0, none⟩))).set_ (p := ⟨pb, 2, none⟩) (fun _ => rfl) (.int .i64 0)
  refine ⟨rfl, ⟨?_, ?_, HH.out.2.2.2.1, by omega, fun v => Nat.le_refl _⟩, hC⟩
  · exact blk_set (blk_set (blk_set HBK.out 0 _) 1 _) 2 _
  · rw [HH.out.2.2.1]
    exact ((H1.out.1.chg (Chg.set_ (S := fun k => k = pb) (Chg.refl _ _) (p := ⟨pb, 0, none⟩) (fun _ => rfl) _) (by omega) (by omega)).chg (Chg.set_ (S := fun k => k = pb) (Chg.refl _ _) (p := ⟨pb, 1, none⟩) (fun _ => rfl) _) (by omega) (by omega)).chg (Chg.set_ (S := fun k => k = pb) (Chg.refl _ _) (p := ⟨pb, 2, none⟩) (fun _ => rfl) _) (by omega) (by omega)
set_option maxHeartbeats 3200000 in
set_option maxRecDepth 100000 in
theorem HNew_any (n : Nat) (hn : n ≤ 64) (w : World) :
    Calls Tryd.prog 8 #[.int .i64 (n : Int)] w fun e w' => e = .returned (.tuple #[.pointer (some ⟨w.heap.size, 0, none⟩), .int .i64 0]) ∧
      IsP w' w.heap.size (w.heap.size + 1) (w.heap.size + 2) n (List.replicate (4 * (8 * (n + 4) + 6)) 0) (fun _ => 0) 0 false ∧ Below w.heap.size w w' := by
  have hwi := fun W => hwithin_any (n : Int) W
  rw [decide_eq_true (show (0 : Int) ≤ (n : Int) ∧ (n : Int) ≤ 64 by omega)] at hwi
  have hb := begin_any w.heap.size n (.int .i64 0) (.pointer none) (.int .i64 0) false (w.alloc (.cells #[.int .i64 0, .pointer none, .int .i64 0, .bool false] 56)) (heap_alloc_new w _) hn
  rw [World.size_alloc] at hb
  have HW := Aside0.mk (And.intro hwi hb)
  clear hwi hb hn
  go_enter Tryd.func8, Tryd.ntmps8
  go_wp2_with (first
    | (go_at_call 22; refine (HW.out.1 _).mono ?_; rintro e w1 ⟨rfl, rfl⟩)
    | (go_at_call 23; refine HW.out.2.mono ?_; rintro e w2 ⟨rfl, hI, hC⟩; have H2 := Aside0.mk (And.intro hI hC); clear hI hC))
  go_ret2
  refine ⟨rfl, H2.out.1, ?_⟩
  have h1 := H2.out.2
  exact (below_alloc (Below.refl w.heap.size w) _).trans (h1.below (by simp) (fun i hi => by omega))
theorem HNew_long (n : Int) (hn : n < 0 ∨ 64 < n) (w : World) :
    Calls Tryd.prog 8 #[.int .i64 n] w fun e w' => e = .returned (.tuple #[.pointer none, .int .i64 7]) ∧ Below w.heap.size w w' := by
  have hwi := fun W => hwithin_any n W
  rw [decide_eq_false (show ¬ (0 ≤ n ∧ n ≤ 64) by omega)] at hwi
  have HW := Aside0.mk hwi
  clear hwi hn
  go_enter Tryd.func8, Tryd.ntmps8
  go_wp2_with (go_at_call 22; refine (HW.out _).mono ?_; rintro e w1 ⟨rfl, rfl⟩)
  go_ret2
  exact ⟨rfl, below_alloc (Below.refl _ _) _⟩
set_option maxHeartbeats 3200000 in
set_option maxRecDepth 100000 in
theorem hopen_ok (l : List Nat) (hb : Bits l) (hl : l.length ≤ 10000) (v : Value) (w : World) (base : Nat) (ok : Nat → Prop) (hR : (Kd.int .u8).R 5 w base ok v (ints l)) :
    Calls Tryd.prog 26 #[v, .int .i64 0] w fun e w' => ∃ u, e = .returned (.tuple #[u, .bool (openB (bytesB l)).isSome]) ∧ (Kd.int .u8).R 5 w' w.heap.size (fun k => w.heap.size ≤ k) u (ints ((openB (bytesB l)).getD [])) ∧ Below w.heap.size w w' := by
  have hby := Bytes_any l hb (by omega) v w base ok hR
  have hlb : (bytesB l).length ≤ 10000 := by rw [bytesB_len]; omega
  have HB := Aside0.mk (And.intro hby (And.intro hlb hb))
  obtain ⟨r, hr⟩ : ∃ r, openB (bytesB l) = r := ⟨_, rfl⟩
  have HR := Aside0.mk hr
  rw [hr]
  clear hby hlb hb hl hR hr
  go_enter Tryd.func26, Tryd.ntmps26
  go_wp2_with fail
  refine HB.out.1.mono ?_
  rintro e w1 ⟨u1, rfl, hR1, hB1⟩
  have ho := Open32_row (bytesB l) (bytesB_lt HB.out.2.2) HB.out.2.1 u1 w1 _ _ hR1
  rw [HR.out] at ho
  have HO := Aside0.mk (And.intro ho hB1)
  clear ho hR1 hB1
  go_wp2_with (go_at_call 55; refine HO.out.1.mono ?_; rintro e w2 ⟨u2, rfl, hR2, hB2⟩; have H2 := Aside0.mk (And.intro hR2 (HO.out.2.trans (hB2.mono HO.out.2.size))); clear hR2 hB2)
  go_ret2
  exact ⟨_, rfl, Kd.R_mono (Kd.R_lower H2.out.1 HO.out.2.size) (fun k hk => Nat.le_trans HO.out.2.size hk), H2.out.2⟩
theorem hopen_bad (v : Value) (x : Int) (hx : x ≠ 0) (w : World) : Calls Tryd.prog 26 #[v, .int .i64 x] w fun e w' => e = .returned (.tuple #[.slice none 0 0, .bool false]) ∧ w = w' := by
  have h1 : (x == 0) = false := by rw [beq_eq_false_iff_ne]; exact hx
  go_enter Tryd.func26, Tryd.ntmps26
  go_wp2
  go_ret2
  exact ⟨rfl, rfl⟩
theorem Done_any (w : World) (pb b sb N : Nat) (xs : List Int) (cs : Nat → Nat) (came : Nat) (done : Bool) (h : IsP w pb b sb N xs cs came done) :
    Calls Tryd.prog 12 #[.pointer (some ⟨pb, 0, none⟩)] w fun e w' => e = .returned (.bool done) ∧ w = w' := by
  have c3 : w.cell? ⟨pb, 3, none⟩ = some (.bool done) := blk_cell h.blk 3
  clear h
  go_enter Tryd.func12, Tryd.ntmps12
  go_wp2
  go_ret
  exact ⟨rfl, rfl⟩
theorem Came_any (w : World) (pb b sb N : Nat) (xs : List Int) (cs : Nat → Nat) (came : Nat) (done : Bool) (h : IsP w pb b sb N xs cs came done) :
    Calls Tryd.prog 17 #[.pointer (some ⟨pb, 0, none⟩)] w fun e w' => e = .returned (.int .i64 (came : Int)) ∧ w = w' := by
  have c2 : w.cell? ⟨pb, 2, none⟩ = some (.int .i64 (came : Int)) := blk_cell h.blk 2
  clear h
  go_enter Tryd.func17, Tryd.ntmps17
  go_wp2
  go_ret
  exact ⟨rfl, rfl⟩
theorem Len_any (w : World) (pb b sb N : Nat) (xs : List Int) (cs : Nat → Nat) (came : Nat) (done : Bool) (h : IsP w pb b sb N xs cs came done) :
    Calls Tryd.prog 18 #[.pointer (some ⟨pb, 0, none⟩)] w fun e w' => e = .returned (.int .i64 (N : Int)) ∧ w = w' := by
  have c0 : w.cell? ⟨pb, 0, none⟩ = some (.int .i64 (N : Int)) := blk_cell h.blk 0
  clear h
  go_enter Tryd.func18, Tryd.ntmps18
  go_wp2
  go_ret
  exact ⟨rfl, rfl⟩
end Go.Proofs.YtnejnnfjbhpigaaDoor.Vit

namespace Go.Proofs.YtnejnnfjbhpigaaDoor.Vit
open Go.RowKit Go.Proofs.YtnejnnfjbhpigaaDoorW.PrintWords Go.Proofs.YtnejnnfjbhpigaaDoorW.PrintLast Go.Proofs.YtnejnnfjbhpigaaDoorW.PrintMore Go.Proofs.YtnejnnfjbhpigaaDoor.Mem Go.Proofs.YtnejnnfjbhpigaaDoor.Crc
attribute [local go_sem] max2_int min2_int max_two min_two max_three min_three max_four min_four   -- for this text's walks alone
set_option linter.unusedVariables false
set_option linter.unusedSimpArgs false

open Go.Proofs.YtnejnnfjbhpigaaDoor.Chk
theorem Taps.chg {S : Nat → Prop} {w w' : World} (h : Taps w) (hc : Chg S w w') (h0 : ¬ S 0) : Taps w' := by
  obtain ⟨h1, h2, h3, h4, h5⟩ := h
  exact ⟨(hc.cell (p := ⟨0, 0, none⟩) h5 h0).trans h1, (hc.cell (p := ⟨0, 1, none⟩) h5 h0).trans h2, (hc.cell (p := ⟨0, 2, none⟩) h5 h0).trans h3, (hc.cell (p := ⟨0, 3, none⟩) h5 h0).trans h4, Nat.lt_of_lt_of_le h5 hc.size⟩
/-- The list that a buffer's numbers tell. -/
def hDec (M : Nat) (xs : List Int) : List Nat := bw (fun j => xs.getD j 0) M (M + 6) M 0 0
theorem hDec_len (M : Nat) (xs : List Int) : (hDec M xs).length = M := bw_len _ _ _ _ _ _
theorem hDec_bits (M : Nat) (xs : List Int) : Bits (hDec M xs) := bw_bits _ _ _ _ _ _
/-- What is read of a version: of all that came, or of it alone. -/
def hRes (M v : Nat) (p : List Nat) (xs : List Int) : Option (List Nat) :=
  match openB (bytesB (hDec M xs)) with
  | some m => some m
  | none => if aOk p v M (M + 6) = true then openB (bytesB (mapL (aB p v) M)) else none
def hE (r : Option (List Nat)) : Int := if r.isSome = true then 0 else 12
theorem hRes_dec {M v : Nat} {p : List Nat} {xs : List Int} {m : List Nat} (h : openB (bytesB (hDec M xs)) = some m) : hRes M v p xs = some m := by unfold hRes; rw [h]
theorem hRes_alone {M v : Nat} {p : List Nat} {xs : List Int} (h : openB (bytesB (hDec M xs)) = none) : hRes M v p xs = if aOk p v M (M + 6) = true then openB (bytesB (mapL (aB p v) M)) else none := by unfold hRes; rw [h]
theorem decOf_h {M : Nat} {xs : List Int} (hl : xs.length = 4 * (M + 6)) (hM : M ≤ 4096) (hb : ∀ x ∈ xs, -31 ≤ x ∧ x ≤ 31) : (decOf xs).1 = ints (hDec M xs) ∧ (decOf xs).2.2 = 0 := by
  rw [decOf_is hl hM hb]
  exact ⟨rfl, rfl⟩
/-- What an Offer leaves. -/
def OffPost (W : World) (pb b sb n v : Nat) (p : List Nat) (xs1 : List Int) (cs1 : Nat → Nat) (came1 : Nat) (e : Ending) (w' : World) : Prop :=
  ∃ u b' sb', e = .returned (.tuple #[u, .int .i64 (hE (hRes (8 * (n + 4)) v p (addv xs1 v p (8 * (n + 4) + 6))))]) ∧ (Kd.int .u8).R 5 w' W.heap.size (fun k => W.heap.size ≤ k) u (ints ((hRes (8 * (n + 4)) v p (addv xs1 v p (8 * (n + 4) + 6))).getD [])) ∧
    IsP w' pb b' sb' n (addv xs1 v p (8 * (n + 4) + 6)) (bump cs1 v) (came1 + 1) (hRes (8 * (n + 4)) v p (addv xs1 v p (8 * (n + 4) + 6))).isSome ∧ ((b' = b ∧ sb' = sb) ∨ (W.heap.size ≤ b' ∧ W.heap.size ≤ sb')) ∧ Chg (PS3 pb b sb) W w'
/-- Where b1, sb1 lie, against b, sb. -/
def SepB (W : World) (b sb b1 sb1 : Nat) : Prop := (b1 = b ∧ sb1 = sb) ∨ (W.heap.size ≤ b1 ∧ W.heap.size ≤ sb1)
theorem off_chg {W W1 w3 w5 : World} {pb b sb b1 sb1 : Nat} (h1 : Chg (PS3 pb b sb) W W1) (h3 : Chg (PS3 pb b1 sb1) W1 w3) (h5 : Below w3.heap.size w3 w5) (hs : SepB W b sb b1 sb1) : Chg (PS3 pb b sb) W w5 := by
  refine (h1.trans h3 (fun i hi hS => ?_)).trans (Chg.of_below h5 (fun _ => False)) (fun _ _ hf => hf.elim)
  rcases hS with h | h | h
  · exact .inl h
  · rcases hs with hs | hs
    · exact .inr (.inl (by omega))
    · omega
  · rcases hs with hs | hs
    · exact .inr (.inr (by omega))
    · omega
theorem proc_ty : ∀ q, q ∈ 5 :: (Kd.int .u8).E → q ≠ 56 := by
  intro q hq
  rcases List.mem_cons.1 hq with rfl | h
  · decide
  · exact absurd h List.not_mem_nil
theorem off_done {W W1 w3 w5 : World} {pb b sb b1 sb1 n v came1 : Nat} {p : List Nat} {xs1 X : List Int} {cs1 : Nat → Nat} {m : List Nat} {u : Value} {ok : Nat → Prop} (h1 : Chg (PS3 pb b sb) W W1) (hX : addv xs1 v p (8 * (n + 4) + 6) = X) (hr : hRes (8 * (n + 4)) v p X = some m)
    (h3 : Chg (PS3 pb b1 sb1) W1 w3) (h5 : Below w3.heap.size w3 w5) (hP : IsP w5 pb b1 sb1 n X (bump cs1 v) (came1 + 1) false) (hR : (Kd.int .u8).R 5 w5 w3.heap.size ok u (ints ((some m).getD []))) (hok : ∀ k, ok k → w3.heap.size ≤ k) (hs : SepB W b sb b1 sb1) {e : Ending} (he : e = .returned (.tuple #[u, .int .i64 0])) :
    OffPost W pb b sb n v p xs1 cs1 came1 e (w5.setCell ⟨pb, 3, none⟩ (.bool true)) := by
  have hne := hP.ne
  have hc := off_chg h1 h3 h5 hs
  have hWw : W.heap.size ≤ w3.heap.size := Nat.le_trans h1.size h3.size
  have hpb : pb < w3.heap.size ∨ w3.heap.size ≤ pb := by omega
  unfold OffPost
  rw [hX, hr]
  refine ⟨u, b1, sb1, he, ?_, ?_, hs, hc.set_ (fun _ => .inl rfl) _⟩
  · have h6 := Kd.R_set hR hP.blk proc_ty 3 (.bool true)
    exact Kd.R_mono (Kd.R_lower h6 hWw) (fun k hk => Nat.le_trans hWw (hok k hk))
  · exact ⟨blk_set hP.blk 3 _, hP.buf.chg (Chg.set_ (S := fun k => k = pb) (Chg.refl _ _) (p := ⟨pb, 3, none⟩) (fun _ => rfl) _) (fun h => hne.1 h.symm) (fun h => hne.2 h.symm), hP.le, hP.few, hP.cnt⟩
theorem off_none {W W1 w3 w5 : World} {pb b sb b1 sb1 n v came1 : Nat} {p : List Nat} {xs1 X : List Int} {cs1 : Nat → Nat} (h1 : Chg (PS3 pb b sb) W W1) (hX : addv xs1 v p (8 * (n + 4) + 6) = X) (hr : hRes (8 * (n + 4)) v p X = none)
    (h3 : Chg (PS3 pb b1 sb1) W1 w3) (h5 : Below w3.heap.size w3 w5) (hP : IsP w5 pb b1 sb1 n X (bump cs1 v) (came1 + 1) false) (hs : SepB W b sb b1 sb1) {e : Ending} (he : e = .returned (.tuple #[.slice none 0 0, .int .i64 12])) :
    OffPost W pb b sb n v p xs1 cs1 came1 e w5 := by
  unfold OffPost
  rw [hX, hr]
  exact ⟨_, b1, sb1, he, Kd.R_nil _ _ _ _ _, hP, hs, off_chg h1 h3 h5 hs⟩
set_option maxHeartbeats 3200000 in
set_option maxRecDepth 100000 in
theorem Offer_same (pb b sb n came : Nat) (xs : List Int) (cs : Nat → Nat) (v : Nat) (hv : v < 4) (p : List Nat) (hp : Bits p) (hpl : p.length = 8 * (n + 4) + 6) (A : Option Addr) (L c : Nat) (hL : 8 * (n + 4) + 6 = L) (hLc : L ≤ c) (W : World)
    (hI : IsP W pb b sb n xs cs came false) (hcm : came < 16) (hin : ∀ x ∈ xs, -31 ≤ x ∧ x ≤ 31) (hC : (Kd.int .u8).C W A L (ints p)) (hA : ∀ ad, A = some ad → ¬ PS3 pb b sb ad.block) (hT : Taps W) (h0 : ¬ PS3 pb b sb 0) :
    Calls Tryd.prog 10 #[.pointer (some ⟨pb, 0, none⟩), .int .i64 (n : Int), .int .i64 (v : Int), .slice A L c] W (OffPost W pb b sb n v p xs cs came) := by
  have hle := hI.le
  have hhr := hright_any (n : Int) (v : Int) (ints p) A L c W hC hLc (by omega)
  have hhe : hErr (n : Int) (v : Int) (ints p) = 0 := by
    unfold hErr
    rw [if_neg (by omega), if_neg (by omega), if_neg (fun ⟨x, hx, h1⟩ => by
      obtain ⟨y, hy, rfl⟩ := List.mem_map.1 hx
      have := hp y hy
      omega), if_neg (by rw [ints_len]; omega)]
  rw [hhe] at hhr
  have c3 : W.cell? ⟨pb, 3, none⟩ = some (.bool false) := blk_cell hI.blk 3
  have HC := Aside0.mk (And.intro hle (And.intro hv (And.intro hp (And.intro hpl (And.intro hL (And.intro hLc (And.intro hhr (And.intro hI (And.intro hC (And.intro hT (And.intro hin (And.intro hA h0))))))))))))
  have HSEP := Aside0.mk (show SepB W b sb b sb from .inl ⟨rfl, rfl⟩)
  have hce : ((came : Int) == 16) = false := by rw [beq_eq_false_iff_ne]; omega
  have hce2 : ¬ (came : Int) = 16 := by omega
  have HCM := Aside0.mk hcm
  clear hle hv hp hpl hLc hhr hhe hI hC hT hin hA h0 hcm hL
  go_enter Tryd.func10, Tryd.ntmps10
  go_wp2_with fail
  refine HC.out.2.2.2.2.2.2.1.mono ?_
  rintro e W1 ⟨rfl, hB1⟩
  have hI1 := HC.out.2.2.2.2.2.2.2.1.below hB1
  have k0 : W1.cell? ⟨pb, 0, none⟩ = some (.int .i64 (n : Int)) := blk_cell hI1.blk 0
  have k2 : W1.cell? ⟨pb, 2, none⟩ = some (.int .i64 (came : Int)) := blk_cell hI1.blk 2
  have HP := Aside0.mk (And.intro hI1 (And.intro (Chg.of_below hB1 (PS3 pb b sb)) (And.intro (Kd.C_below HC.out.2.2.2.2.2.2.2.2.1 hB1) (And.intro (HC.out.2.2.2.2.2.2.2.2.2.1.below hB1) (And.intro HC.out.2.2.2.2.2.2.2.2.2.2.1 (And.intro HCM.out (And.intro HC.out.2.2.2.2.2.2.2.2.2.2.2.2 HC.out.2.2.2.2.2.2.2.2.2.2.2.1)))))))
  clear hI1 hB1
  have M1 : W1.cell? ⟨pb, 1, none⟩ = some (.pointer (some ⟨b, 0, none⟩)) := blk_cell HP.out.1.blk 1
  have hadd := Add_ok W1 b sb (8 * (n + 4)) xs cs HP.out.1.buf v HC.out.2.1 (Nat.le_trans (HP.out.1.cnt v) (by have := HP.out.1.few; omega)) p HC.out.2.2.1 HC.out.2.2.2.1 A c (by rw [HC.out.2.2.2.2.1]; exact HP.out.2.2.1) (by rw [HC.out.2.2.2.2.1]; exact HC.out.2.2.2.2.2.1)
  rw [HC.out.2.2.2.2.1] at hadd
  have HA := Aside0.mk hadd
  clear hadd
  go_wp2_with fail
  refine HA.out.mono ?_
  rintro e w2 ⟨rfl, hI2, hC2⟩
  rw [← HC.out.2.2.2.2.1] at hI2
  have hne := HP.out.1.ne
  have hbk2 := hC2.keeps HP.out.1.blk (by show ¬ (pb = b ∨ pb = sb); exact fun h => h.elim hne.1 hne.2)
  have c2 : w2.cell? ⟨pb, 2, none⟩ = some (.int .i64 (came : Nat)) := blk_cell hbk2 2
  have f2 : w2.frozen? ⟨pb, 2, none⟩ = false := blk_frozen hbk2 2
  have hS3 : Chg (PS3 pb b sb) W1 (w2.setCell ⟨pb, 2, none⟩ (.int .i64 ((came : Nat) + 1))) := (hC2.mono (fun k hk => .inr hk)).set_ (fun _ => .inl rfl) _
  have hP3 : IsP (w2.setCell ⟨pb, 2, none⟩ (.int .i64 ((came : Nat) + 1))) pb b sb n (addv xs v p (8 * (n + 4) + 6)) (bump cs v) (came + 1) false :=
    by
      rw [show ((came : Nat) : Int) + 1 = ((came + 1 : Nat) : Int) from by omega]
      exact ⟨blk_set hbk2 2 _, hI2.chg (Chg.set_ (S := fun k => k = pb) (Chg.refl _ _) (p := ⟨pb, 2, none⟩) (fun _ => rfl) _) (fun h => hne.1 h.symm) (fun h => hne.2 h.symm), HP.out.1.le, by have := HP.out.2.2.2.2.2.1; omega, fun z => by have h1 := HP.out.1.cnt z; have h2 := HP.out.1.cnt v; unfold bump; split <;> omega⟩
  have hT3 := HP.out.2.2.2.1.chg hS3 HP.out.2.2.2.2.2.2.1
  have hC3 := C_chg HP.out.2.2.1 hS3 HP.out.2.2.2.2.2.2.2
  have hb3 : ∀ x ∈ addv xs v p (8 * (n + 4) + 6), -31 ≤ x ∧ x ≤ 31 := addv_in _ _ _ HP.out.2.2.2.2.1 _
  obtain ⟨X, hX⟩ : ∃ X, addv xs v p (8 * (n + 4) + 6) = X := ⟨_, rfl⟩
  rw [hX] at hP3 hb3
  have hcb : (came : Int) < 16 := by have := HP.out.2.2.2.2.2.1; omega
  have H3 := Aside0.mk (And.intro hP3 (And.intro hS3 (And.intro hT3 (And.intro hC3 (And.intro hb3 hX)))))
  clear hI2 hC2 hbk2 hS3 hP3 hT3 hC3 hb3 hX hne
  go_upto_region 16 with fail
  obtain ⟨w3, hw3⟩ : ∃ w3, w2.setCell ⟨pb, 2, none⟩ (.int .i64 ((came : Int) + 1)) = w3 := ⟨_, rfl⟩
  rw [hw3] at H3 ⊢
  obtain ⟨hP3, hS3, hT3, hC3, hb3, hX⟩ := H3.out
  have M2 : w3.cell? ⟨pb, 1, none⟩ = some (.pointer (some ⟨b, 0, none⟩)) := blk_cell hP3.blk 1
  have hM := HC.out.1
  have hdec := BDecode_any w3 b sb (8 * (n + 4)) X (bump cs v) hP3.buf hT3
  obtain ⟨d1, d2⟩ := decOf_h (M := 8 * (n + 4)) hP3.buf.len (by omega) hb3
  rw [d1, d2] at hdec
  have HD := Aside0.mk hdec
  clear hw3 M1 c2 f2 hdec d1 d2 hP3 hS3 hT3 hC3 hb3 hX hM
  go_wp2_with fail
  refine HD.out.mono ?_
  rintro e w4 ⟨u4, rfl, hR4, hB4⟩
  have hop := hopen_ok (hDec (8 * (n + 4)) X) (hDec_bits _ _) (by rw [hDec_len]; have := HC.out.1; omega) u4 w4 _ _ hR4
  obtain ⟨r1, hr1⟩ : ∃ r1, openB (bytesB (hDec (8 * (n + 4)) X)) = r1 := ⟨_, rfl⟩
  rw [hr1] at hop
  have HO := Aside0.mk (And.intro hop (And.intro hr1 hB4))
  clear hop hr1 hR4 hB4
  go_wp2_with fail
  refine HO.out.1.mono ?_
  rintro e w5 ⟨u5, rfl, hR5, hB5⟩
  have hB35 : Below w3.heap.size w3 w5 := HO.out.2.2.trans (hB5.mono HO.out.2.2.size)
  have hP5 := H3.out.1.below hB35
  have f5 : w5.frozen? ⟨pb, 3, none⟩ = false := blk_frozen hP5.blk 3
  have c5 : w5.cell? ⟨pb, 3, none⟩ = some (.bool false) := blk_cell hP5.blk 3
  have H5 := Aside0.mk (And.intro hR5 (And.intro hB35 hP5))
  clear hR5 hB5 hB35 hP5
  cases r1 with
  | some m1 =>
    have hres : hRes (8 * (n + 4)) v p X = some m1 := hRes_dec HO.out.2.1
    have HRES := Aside0.mk hres
    clear hres
    go_wp2
    go_ret2
    exact off_done HP.out.2.1 H3.out.2.2.2.2.2 HRES.out H3.out.2.1 H5.out.2.1 H5.out.2.2 (Kd.R_lower H5.out.1 HO.out.2.2.size) (fun k hk => Nat.le_trans HO.out.2.2.size hk) HSEP.out (by first | rfl | exact HSB.out)
  | none =>
    have hres := hRes_alone (v := v) (p := p) HO.out.2.1
    have hal := Alone_any p HC.out.2.2.1 v HC.out.2.1 A L c (8 * (n + 4)) w5 (by rw [HC.out.2.2.2.1]; exact HC.out.2.2.2.2.1) HC.out.2.2.2.2.1.symm (Kd.C_below H3.out.2.2.2.1 H5.out.2.1) HC.out.2.2.2.2.2.1 (by have := HC.out.1; have := HC.out.2.2.2.2.1; omega) (H3.out.2.2.1.below H5.out.2.1)
    rw [← HC.out.2.2.2.2.1] at hal
    by_cases hok : aOk p v (8 * (n + 4)) (8 * (n + 4) + 6) = true
    · rw [if_pos hok] at hres
      have he : alE p v (8 * (n + 4)) (8 * (n + 4) + 6) = 0 := by unfold alE; rw [if_pos hok]
      have hl : alL p v (8 * (n + 4)) (8 * (n + 4) + 6) = mapL (aB p v) (8 * (n + 4)) := by unfold alL; rw [if_pos hok]
      rw [he, hl, HC.out.2.2.2.2.1] at hal
      have HAL := Aside0.mk hal
      have HRES := Aside0.mk hres
      clear hal hres he hl hok
      go_wp2_with fail
      refine HAL.out.mono ?_
      rintro e w6 ⟨u6, rfl, hR6, hB6⟩
      have hop := hopen_ok (mapL (aB p v) (8 * (n + 4))) (mapL_bits (aB_le p v) _) (by rw [mapL_len]; have := HC.out.1; omega) u6 w6 _ _ hR6
      obtain ⟨r2, hr2⟩ : ∃ r2, openB (bytesB (mapL (aB p v) (8 * (n + 4)))) = r2 := ⟨_, rfl⟩
      rw [hr2] at hop
      have HO2 := Aside0.mk (And.intro hop (And.intro hr2 hB6))
      clear hop hr2 hR6 hB6
      go_wp2_with fail
      refine HO2.out.1.mono ?_
      rintro e w7 ⟨u7, rfl, hR7, hB7⟩
      have hB57 : Below w5.heap.size w5 w7 := HO2.out.2.2.trans (hB7.mono HO2.out.2.2.size)
      have hP7 := H5.out.2.2.below hB57
      have f7 : w7.frozen? ⟨pb, 3, none⟩ = false := blk_frozen hP7.blk 3
      have c7 : w7.cell? ⟨pb, 3, none⟩ = some (.bool false) := blk_cell hP7.blk 3
      have H7 := Aside0.mk (And.intro hR7 (And.intro (H5.out.2.1.trans (hB57.mono H5.out.2.1.size)) hP7))
      have hres2 := HRES.out.trans HO2.out.2.1
      have HRES2 := Aside0.mk hres2
      clear hR7 hB7 hB57 hP7 hres2
      have h37 : w3.heap.size ≤ w6.heap.size := Nat.le_trans H5.out.2.1.size HO2.out.2.2.size
      have H37 := Aside0.mk h37
      clear h37
      cases r2 with
      | some m2 =>
        go_wp2
        go_ret2
        exact off_done HP.out.2.1 H3.out.2.2.2.2.2 HRES2.out H3.out.2.1 H7.out.2.1 H7.out.2.2 (Kd.R_lower H7.out.1 H37.out) (fun k hk => Nat.le_trans H37.out hk) HSEP.out (by first | rfl | exact HSB.out)
      | none =>
        go_wp2
        go_ret2
        exact off_none HP.out.2.1 H3.out.2.2.2.2.2 HRES2.out H3.out.2.1 H7.out.2.1 H7.out.2.2 HSEP.out (by first | rfl | exact HSB.out)
    · rw [if_neg hok] at hres
      have he : alE p v (8 * (n + 4)) (8 * (n + 4) + 6) = 13 := by unfold alE; rw [if_neg hok]
      rw [he, HC.out.2.2.2.2.1] at hal
      have HAL := Aside0.mk hal
      have HRES := Aside0.mk hres
      clear hal hres he hok
      go_wp2_with (first
        | (go_at_call 28; refine HAL.out.mono ?_; rintro e w6 ⟨u6, rfl, hR6, hB6⟩; have H6 := Aside0.mk hB6; clear hR6 hB6)
        | (go_at_call 26; refine (hopen_bad _ 13 (by decide) _).mono ?_; rintro e w7 ⟨rfl, rfl⟩))
      go_ret2
      exact off_none HP.out.2.1 H3.out.2.2.2.2.2 HRES.out H3.out.2.1 (H5.out.2.1.trans (H6.out.mono H5.out.2.1.size)) (H5.out.2.2.below H6.out) HSEP.out (by first | rfl | exact HSB.out)
end Go.Proofs.YtnejnnfjbhpigaaDoor.Vit
