/- WheelOnce: one number is set, again and again. -/
import Derived.Test.YtjiligngjlejmaaHi
namespace Go.Proofs.Ytjiligngjlejmaa.Vit
open Go.Shelf Go.RowKit Go.Proofs.YtjiligngjlejmaaW.PrintWords Go.Proofs.YtjiligngjlejmaaW.PrintLast Go.Proofs.YtjiligngjlejmaaW.PrintMore Go.Proofs.Ytjiligngjlejmaa.Mem
attribute [local go_sem] max2_int min2_int max_two min_two max_three min_three max_four min_four   -- for this text's walks alone
set_option linter.unusedVariables false
set_option linter.unusedSimpArgs false

/-- One number alone is set. -/
def St.only (a t : Nat) : St := ⟨fun x => if x = a then some t else none, fun j => if j = t % 32 then [a] else [], 1⟩
theorem less_nil (a : Nat) : less [] a = [] := rfl
theorem less_one (a : Nat) : less [a] a = [] := by simp [less]
theorem nil_put (a t : Nat) : St.nil.put a t = St.only a t := by
  unfold St.put St.only St.nil
  congr 1
theorem only_put (a t t' : Nat) : (St.only a t').put a t = St.only a t := by
  unfold St.put St.only
  congr 1
  · funext x
    unfold upd
    by_cases h : x = a <;> simp [h]
  · funext j
    have h0 : less (if j = t' % 32 then [a] else []) a = [] := by
      by_cases h1 : j = t' % 32
      · rw [if_pos h1, less_one]
      · rw [if_neg h1, less_nil]
    show (if j = t % 32 then less (if j = t' % 32 then [a] else []) a ++ [a] else less (if j = t' % 32 then [a] else []) a) = _
    rw [h0]
    rfl
  · simp [setCnt]
theorem only_due (a t t' : Nat) : due (St.only a t).f t' ((St.only a t).L (t' % 32)) = if t' = t then [a] else [] := by
  unfold due St.only
  by_cases h : t' = t
  · subst h
    simp
  · rw [if_neg h]
    by_cases h2 : t' % 32 = t % 32
    · simp [h2]
      omega
    · simp [h2]
theorem nil_due (t' : Nat) : due St.nil.f t' (St.nil.L (t' % 32)) = [] := rfl
theorem only_taken (a t : Nat) : [a].foldl St.take1 (St.only a t) = St.nil := by
  show (St.only a t).take1 a = St.nil
  unfold St.take1 St.only St.nil
  congr 1
  · funext x
    unfold upd
    by_cases h : x = a <;> simp [h]
  · funext j
    by_cases h1 : j = t % 32 <;> simp [h1, less_one, less_nil]
  · simp
/-- The wheel of one number, at a tick. -/
def St.oneAt (a last now : Nat) : St := if now < last then St.only a last else St.nil
theorem oneAt_due (a last now : Nat) : due (St.oneAt a last now).f (now + 1) ((St.oneAt a last now).L ((now + 1) % 32)) = if now + 1 = last then [a] else [] := by
  unfold St.oneAt
  by_cases h : now < last
  · rw [if_pos h, only_due]
  · rw [if_neg h, if_neg (by omega)]
    rfl
theorem oneAt_next (a last now : Nat) : (if now + 1 = last then [a] else []).foldl St.take1 (St.oneAt a last now) = St.oneAt a last (now + 1) := by
  unfold St.oneAt
  by_cases h : now + 1 = last
  · rw [if_pos h, if_pos (by omega), only_taken, if_neg (by omega)]
  · rw [if_neg h]
    by_cases h2 : now < last
    · rw [if_pos h2, if_pos (by omega)]
      rfl
    · rw [if_neg h2, if_neg (by omega)]
      rfl
theorem u64_mod100 (x : Int) : ∃ v : Nat, v < 100 ∧ (IntKind.u64.wrap x).tmod 100 = (v : Int) := by
  have h0 : 0 ≤ IntKind.u64.wrap x := by have := IntKind.wrap_u64 x; omega
  refine ⟨((IntKind.u64.wrap x).tmod 100).toNat, ?_, ?_⟩ <;> (rw [Int.tmod_eq_emod_of_nonneg h0]; omega)
theorem one_in {v t : Nat} (h : 1 + v = t) (ht : t ≤ 1000000) : wrap64 (1 + (v : Int)) = (t : Int) := by rw [wrap64_in _ (by omega) (by omega)]; omega
theorem IsS.below {s0 : Nat} {W W' : World} {b m n now : Nat} {s : St} {own : Nat → Nat} (h : IsS s0 W b m n now s own) (hB : Below W.heap.size W W') : IsS s0 W' b m n now s own := ⟨h.1.below hB, h.2⟩
set_option maxHeartbeats 3200000 in
set_option maxRecDepth 100000 in
theorem once_walk (a : Nat) (ha : a < 65536) (xs : List Int) (A : Option Addr) (n c : Nat) (w : World) (hC : (Kd.int .i64).C w A n xs) (hn : n ≤ 140737488355328) :
    Calls Try.prog 3 #[.int .u16 (a : Int), .slice A n c] w fun e w' => e = .returned (.bool true) ∧ Below w.heap.size w w' := by
  have hl : xs.length = n := Kd.C_len hC
  have HC := Aside0.mk (And.intro hC hl)
  clear hC hl
  go_enter Try.func3, Try.ntmps3
  go_wp2_with (first
    | (go_at_call 6; refine (newS w).mono ?_; rintro e w1 ⟨b, m, rfl, q1, q2⟩; have A1 := Aside0.mk (And.intro q1 q2); clear q1 q2)
    | (go_at_call 7; refine (turns_walk _).mono ?_; rintro e w2 ⟨rfl, q1⟩; have A2 := Aside0.mk (And.intro (A1.out.1.below q1) (And.intro (below_step A1.out.2 q1) (Nat.le_trans A1.out.2.size q1.size))); clear q1)
    | (go_at_call 8; refine (setS w.heap.size w2 b m 0 0 a 5 _ _ A2.out.1 ha (by omega) A2.out.2.2 (by omega) (by omega)).mono ?_; rintro e w3 ⟨rfl, own3, q1, q2, q3⟩; rw [nil_put] at q2; have A3 := Aside0.mk (And.intro q2 (And.intro (low_step A2.out.1 (fun _ _ => rfl) A2.out.2.1 A2.out.2.2 q3) (And.intro (fun i (hi : i < w.heap.size) => q1 i (Nat.lt_of_lt_of_le hi A2.out.2.2)) (Nat.le_trans A2.out.2.2 q3.size)))); clear q1 q2 q3))
  go_loopw [6, 7] (fun x6 x7 wr => ∃ (i last : Nat) (own : Nat → Nat), x6 = .int .i64 last ∧ x7 = .int .i64 i ∧ 1 ≤ last ∧ last ≤ 100 ∧ i ≤ 10 ∧ IsS w.heap.size wr b m (i + 1) 0 (St.only a last) own ∧ (∀ k, k < w.heap.size → own k = 32) ∧ Below w.heap.size w wr) (fun _ x7 _ => 10 - natOf x7)
  case atStart => exact ⟨0, 5, own3, rfl, rfl, by omega, by omega, by omega, A3.out.1, A3.out.2.2.1, A3.out.2.1⟩
  case round =>
    obtain ⟨i, last, own, rfl, rfl, h1, h2, h3, hS, ho, hB⟩ := hrel
    by_cases hin : i < n
    · have hin' : (i : Int) < (n : Int) := by omega
      by_cases hi10 : i < 10
      · have hi10' : (i : Int) < 10 := by omega
        obtain ⟨ad, hA, hcell⟩ := Kd.at_int (Kd.C_below HC.out.1 hB) (i : Int) (by omega) hin'
        cases hA
        rw [Int.toNat_natCast] at hcell
        obtain ⟨z, hz⟩ : ∃ z, rd xs (i : Int) = z := ⟨_, rfl⟩
        rw [hz] at hcell
        obtain ⟨v, hv, hv2⟩ := u64_mod100 z
        have HV := Aside0.mk hv2
        clear hv2
        obtain ⟨t, ht⟩ : ∃ t, 1 + v = t := ⟨_, rfl⟩
        have ht1 : 1 ≤ t := by omega
        have ht2 : t ≤ 100 := by omega
        have ht3 : t ≤ 1000000 := by omega
        have hv3 : v < 1000000000 := by omega
        have hmes : 10 - ((i : Int) + 1).toNat < 10 - (i : Int).toNat := by omega
        have HS := Aside0.mk (setS w.heap.size wr b m (i + 1) 0 a t _ _ hS ha (by omega) hB.size (by omega) (by omega))
        have r1 := nat_in hv3
        have r2 := one_in ht ht3
        have hv2 := HV.out
        have HB := Aside0.mk (And.intro hS (And.intro ho hB))
        have HM := Aside0.mk (And.intro ht1 (And.intro ht2 hmes))
        clear hS ho hB hz hv ht ht1 ht2 ht3 hv3 hmes
        go_wp2_with (go_at_call 8; refine HS.out.mono ?_; rintro e w5 ⟨rfl, own5, q1, q2, q3⟩; rw [Nat.zero_add, only_put] at q2; have A5 := Aside0.mk (And.intro q2 (And.intro (low_step HB.out.1 HB.out.2.1 HB.out.2.2 HB.out.2.2.size q3) (fun k (hk : k < w.heap.size) => (q1 k (Nat.lt_of_lt_of_le hk HB.out.2.2.size)).trans (HB.out.2.1 k hk)))); clear q1 q2 q3)
        obtain ⟨p2, p3, p4⟩ := A5.out
        exact ⟨⟨i + 1, t, own5, rfl, by congr 1, HM.out.1, HM.out.2.1, hi10, p2, p4, p3⟩, HM.out.2.2⟩
      · have hi10' : ¬ (i : Int) < 10 := by omega
        have hi1 : i ≤ 10 := h3
        have HB := Aside0.mk (And.intro hS (And.intro ho (And.intro hB (And.intro h1 h2))))
        clear hS ho hB h1 h2 h3
        go_wp2
        go_loopw [8] (fun x8 wr => ∃ (p : Nat) (own : Nat → Nat), x8 = .int .i64 p ∧ 1 ≤ p ∧ p ≤ 121 ∧ IsS w.heap.size wr b m (i + 1) (p - 1) (St.oneAt a last (p - 1)) own ∧ (∀ k, k < w.heap.size → own k = 32) ∧ Below w.heap.size w wr) (fun x8 _ => 121 - natOf x8)
        case atStart => exact ⟨1, own, rfl, by omega, by omega, by unfold St.oneAt; rw [if_pos (by have := HB.out.2.2.2.1; omega)]; exact HB.out.1, HB.out.2.1, HB.out.2.2.1⟩
        case round =>
          obtain ⟨p, own2, rfl, p1, p2, pS, po, pB⟩ := hrel
          by_cases hp : p ≤ 120
          · have hp' : (p : Int) ≤ 120 := by omega
            have hdue := oneAt_due a last (p - 1)
            have hnext := oneAt_next a last (p - 1)
            rw [show p - 1 + 1 = p by omega] at hdue hnext
            have htw := tick_walk w.heap.size wr b m (i + 1) (p - 1) _ _ pS (by have := hi1; omega) (by omega) (if p = last then [a] else []) (by rw [show p - 1 + 1 = p by omega]; exact hdue) (by by_cases h : p = last <;> simp [h]) (by by_cases h : p = last <;> simp [h])
            rw [hnext, show p - 1 + 1 = p by omega] at htw
            have hmes : 121 - ((p : Int) + 1).toNat < 121 - (p : Int).toNat := by omega
            have hp9 : p + 1 ≤ 121 := by omega
            have HP := Aside0.mk (And.intro pS (And.intro po (And.intro pB (And.intro hmes hp9))))
            clear pS po pB hmes hp9 hdue hnext p1 p2
            by_cases hpl : p = last
            · subst hpl
              rw [if_pos rfl] at htw
              go_wp2_with (go_at_call 9; refine htw.mono ?_; rintro e w6 ⟨u6, own6, rfl, q1, q2, q3, q4⟩; have A6 := Aside0.mk (And.intro q3 (And.intro (low_step HP.out.1 HP.out.2.1 HP.out.2.2.1 HP.out.2.2.1.size q4) (fun k (hk : k < w.heap.size) => (q2 k (Nat.lt_of_lt_of_le hk HP.out.2.2.1.size)).trans (HP.out.2.1 k hk)))); obtain ⟨g6, o6, c6, rfl, hc6⟩ := row_cell q1 (by simp); have hd6 : w6.cell? ⟨g6, o6, none⟩ = some (.int .u16 (a : Int)) := hc6 0 (by simp); clear q1 q2 q3 q4 hc6)
              obtain ⟨p3, p4, p5⟩ := A6.out
              exact ⟨⟨p + 1, own6, by congr 1, Nat.succ_le_succ (Nat.zero_le _), HP.out.2.2.2.2, p3, p5, p4⟩, HP.out.2.2.2.1⟩
            · rw [if_neg hpl] at htw
              have hpl' : ¬ (p : Int) = (last : Int) := by omega
              go_wp2_with (go_at_call 9; refine htw.mono ?_; rintro e w6 ⟨u6, own6, rfl, q1, q2, q3, q4⟩; have A6 := Aside0.mk (And.intro q3 (And.intro (low_step HP.out.1 HP.out.2.1 HP.out.2.2.1 HP.out.2.2.1.size q4) (fun k (hk : k < w.heap.size) => (q2 k (Nat.lt_of_lt_of_le hk HP.out.2.2.1.size)).trans (HP.out.2.1 k hk)))); obtain ⟨x6, c6, rfl⟩ := row_shape q1; clear q1 q2 q3 q4)
              obtain ⟨p3, p4, p5⟩ := A6.out
              exact ⟨⟨p + 1, own6, by congr 1, Nat.succ_le_succ (Nat.zero_le _), HP.out.2.2.2.2, p3, p5, p4⟩, HP.out.2.2.2.1⟩
          · have hpe : p = 121 := by omega
            subst hpe
            have hz : St.oneAt a last (121 - 1) = St.nil := by unfold St.oneAt; rw [if_neg (by have := HB.out.2.2.2.2; omega)]
            rw [hz] at pS
            have hlen := lenS w.heap.size wr b m (i + 1) (121 - 1) _ _ pS
            rw [show St.nil.c = 0 from rfl] at hlen
            have HP := Aside0.mk pB
            clear pS pB po p1 p2
            go_wp2_with (go_at_call 10; refine hlen.mono ?_; rintro e w6 ⟨rfl, rfl⟩)
            go_ret
            exact ⟨rfl, HP.out⟩
    · have hi10' : ¬ (i : Int) < (n : Int) := by omega
      have hi1 : i ≤ 10 := h3
      have HB := Aside0.mk (And.intro hS (And.intro ho (And.intro hB (And.intro h1 h2))))
      clear hS ho hB h1 h2 h3
      go_wp2
      go_loopw [8] (fun x8 wr => ∃ (p : Nat) (own : Nat → Nat), x8 = .int .i64 p ∧ 1 ≤ p ∧ p ≤ 121 ∧ IsS w.heap.size wr b m (i + 1) (p - 1) (St.oneAt a last (p - 1)) own ∧ (∀ k, k < w.heap.size → own k = 32) ∧ Below w.heap.size w wr) (fun x8 _ => 121 - natOf x8)
      case atStart => exact ⟨1, own, rfl, by omega, by omega, by unfold St.oneAt; rw [if_pos (by have := HB.out.2.2.2.1; omega)]; exact HB.out.1, HB.out.2.1, HB.out.2.2.1⟩
      case round =>
        obtain ⟨p, own2, rfl, p1, p2, pS, po, pB⟩ := hrel
        by_cases hp : p ≤ 120
        · have hp' : (p : Int) ≤ 120 := by omega
          have hdue := oneAt_due a last (p - 1)
          have hnext := oneAt_next a last (p - 1)
          rw [show p - 1 + 1 = p by omega] at hdue hnext
          have htw := tick_walk w.heap.size wr b m (i + 1) (p - 1) _ _ pS (by have := hi1; omega) (by omega) (if p = last then [a] else []) (by rw [show p - 1 + 1 = p by omega]; exact hdue) (by by_cases h : p = last <;> simp [h]) (by by_cases h : p = last <;> simp [h])
          rw [hnext, show p - 1 + 1 = p by omega] at htw
          have hmes : 121 - ((p : Int) + 1).toNat < 121 - (p : Int).toNat := by omega
          have hp9 : p + 1 ≤ 121 := by omega
          have HP := Aside0.mk (And.intro pS (And.intro po (And.intro pB (And.intro hmes hp9))))
          clear pS po pB hmes hp9 hdue hnext p1 p2
          by_cases hpl : p = last
          · subst hpl
            rw [if_pos rfl] at htw
            go_wp2_with (go_at_call 9; refine htw.mono ?_; rintro e w6 ⟨u6, own6, rfl, q1, q2, q3, q4⟩; have A6 := Aside0.mk (And.intro q3 (And.intro (low_step HP.out.1 HP.out.2.1 HP.out.2.2.1 HP.out.2.2.1.size q4) (fun k (hk : k < w.heap.size) => (q2 k (Nat.lt_of_lt_of_le hk HP.out.2.2.1.size)).trans (HP.out.2.1 k hk)))); obtain ⟨g6, o6, c6, rfl, hc6⟩ := row_cell q1 (by simp); have hd6 : w6.cell? ⟨g6, o6, none⟩ = some (.int .u16 (a : Int)) := hc6 0 (by simp); clear q1 q2 q3 q4 hc6)
            obtain ⟨p3, p4, p5⟩ := A6.out
            exact ⟨⟨p + 1, own6, by congr 1, Nat.succ_le_succ (Nat.zero_le _), HP.out.2.2.2.2, p3, p5, p4⟩, HP.out.2.2.2.1⟩
          · rw [if_neg hpl] at htw
            have hpl' : ¬ (p : Int) = (last : Int) := by omega
            go_wp2_with (go_at_call 9; refine htw.mono ?_; rintro e w6 ⟨u6, own6, rfl, q1, q2, q3, q4⟩; have A6 := Aside0.mk (And.intro q3 (And.intro (low_step HP.out.1 HP.out.2.1 HP.out.2.2.1 HP.out.2.2.1.size q4) (fun k (hk : k < w.heap.size) => (q2 k (Nat.lt_of_lt_of_le hk HP.out.2.2.1.size)).trans (HP.out.2.1 k hk)))); obtain ⟨x6, c6, rfl⟩ := row_shape q1; clear q1 q2 q3 q4)
            obtain ⟨p3, p4, p5⟩ := A6.out
            exact ⟨⟨p + 1, own6, by congr 1, Nat.succ_le_succ (Nat.zero_le _), HP.out.2.2.2.2, p3, p5, p4⟩, HP.out.2.2.2.1⟩
        · have hpe : p = 121 := by omega
          subst hpe
          have hz : St.oneAt a last (121 - 1) = St.nil := by unfold St.oneAt; rw [if_neg (by have := HB.out.2.2.2.2; omega)]
          rw [hz] at pS
          have hlen := lenS w.heap.size wr b m (i + 1) (121 - 1) _ _ pS
          rw [show St.nil.c = 0 from rfl] at hlen
          have HP := Aside0.mk pB
          clear pS pB po p1 p2
          go_wp2_with (go_at_call 10; refine hlen.mono ?_; rintro e w6 ⟨rfl, rfl⟩)
          go_ret
          exact ⟨rfl, HP.out⟩
theorem once_any (a : Int) (A : Option Addr) (n c : Nat) (xs : List Int) (w : World) (hC : (Kd.int .i64).C w A n xs) (hn : n ≤ 140737488355328) (hw : (Lit.int .u16 a).wf = true) :
    Calls Try.prog 3 #[.int .u16 a, .slice A n c] w fun e w' => e = .returned (.bool true) ∧ Below w.heap.size w w' := by
  have h : IntKind.u16.min ≤ a ∧ a ≤ IntKind.u16.max := by simpa [Lit.wf] using hw
  have e1 : IntKind.u16.min = 0 := by decide
  have e2 : IntKind.u16.max = 65535 := by decide
  rw [e1, e2] at h
  obtain ⟨k, rfl⟩ : ∃ k : Nat, a = (k : Int) := ⟨a.toNat, by omega⟩
  exact once_walk k (by omega) xs A n c w hC hn
end Go.Proofs.Ytjiligngjlejmaa.Vit
