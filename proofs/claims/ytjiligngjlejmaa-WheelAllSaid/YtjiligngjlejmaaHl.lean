/- WheelAll: many numbers are set, each once. -/
import Derived.Test.YtjiligngjlejmaaHk
namespace Go.Proofs.Ytjiligngjlejmaa.Vit
open Go.Shelf Go.RowKit Go.Proofs.YtjiligngjlejmaaW.PrintWords Go.Proofs.YtjiligngjlejmaaW.PrintLast Go.Proofs.YtjiligngjlejmaaW.PrintMore Go.Proofs.Ytjiligngjlejmaa.Mem
attribute [local go_sem] max2_int min2_int max_two min_two max_three min_three max_four min_four   -- for this text's walks alone
set_option linter.unusedVariables false
set_option linter.unusedSimpArgs false

theorem u16_in {i : Nat} (h : i < 65536) : IntKind.u16.wrap (i : Int) = (i : Int) := by
  have := IntKind.wrap_u16 (i : Int)
  omega
theorem sub_in {k k' : Nat} (h : k' + 1 = k) (h9 : k' ≤ 1000000) : wrap64 ((k : Int) - 1) = (k' : Int) := by rw [wrap64_in _ (by omega) (by omega)]; omega
theorem sub_in' {k k' : Nat} (h : k' + 1 = k) (h9 : k' ≤ 1000000) : IntKind.i64.wrap ((k : Int) - 1) = (k' : Int) := by
  have := IntKind.wrap_i64 ((k : Int) - 1)
  omega
theorem one_in' {v t : Nat} (h : 1 + v = t) (ht : t ≤ 1000000) : wrap64 (1 + wrap64 (v : Int)) = (t : Int) := by rw [nat_in (by omega)]; exact one_in h ht
set_option maxHeartbeats 3200000 in
set_option maxRecDepth 100000 in
theorem all_walk (xs : List Int) (A : Option Addr) (n c N : Nat) (w : World) (hC : (Kd.int .i64).C w A n xs) (hn : n ≤ 140737488355328) (hN : (if (20 : Int) < (n : Int) then (20 : Int) else (n : Int)) = (N : Int)) (hNn : N ≤ n) (hN20 : N ≤ 20) :
    Calls Try.prog 4 #[.slice A n c] w fun e w' => e = .returned (.bool true) ∧ Below w.heap.size w w' := by
  have hl : xs.length = n := Kd.C_len hC
  have HC := Aside0.mk (And.intro hC hl)
  have HN := Aside0.mk (And.intro hNn hN20)
  clear hC hl hNn hN20
  go_enter Try.func4, Try.ntmps4
  go_wp2_with (first
    | (go_at_call 6; refine (newS w).mono ?_; rintro e w1 ⟨b, m, rfl, q1, q2⟩; have A1 := Aside0.mk (And.intro q1 q2); clear q1 q2)
    | (go_at_call 7; refine (turns_walk _).mono ?_; rintro e w2 ⟨rfl, q1⟩; have A2 := Aside0.mk (And.intro (A1.out.1.below q1) (And.intro (below_step A1.out.2 q1) (Nat.le_trans A1.out.2.size q1.size))); clear q1))
  go_loopw [5] (fun x5 wr => ∃ (i : Nat) (own : Nat → Nat), x5 = .int .i64 i ∧ i ≤ N ∧ IsS w.heap.size wr b m i 0 (St.many (wq xs) i 0) own ∧ (∀ k, k < w.heap.size → own k = 32) ∧ Below w.heap.size w wr) (fun x5 _ => N - natOf x5)
  case atStart => exact ⟨0, _, rfl, Nat.zero_le _, by rw [many_zero]; exact A2.out.1, fun _ _ => rfl, A2.out.2.1⟩
  case round =>
    obtain ⟨i, own, rfl, h3, hS, ho, hB⟩ := hrel
    by_cases hin : i < N
    · have hin' : (i : Int) < (n : Int) := by have := HN.out.1; omega
      have hiN : (i : Int) < (N : Int) := by omega
      have hi20 : i < 20 := by have := HN.out.2; omega
      obtain ⟨ad, hA, hcell⟩ := Kd.at_int (Kd.C_below HC.out.1 hB) (i : Int) (by omega) hin'
      cases hA
      rw [Int.toNat_natCast] at hcell
      have hv2 := wd_eq xs i
      have hv := wd_lt xs i
      obtain ⟨z, hz⟩ : ∃ z, rd xs (i : Int) = z := ⟨_, rfl⟩
      rw [hz] at hcell hv2
      obtain ⟨v, hvv⟩ : ∃ v, wd xs i = v := ⟨_, rfl⟩
      rw [hvv] at hv2 hv
      have HV := Aside0.mk hv2
      clear hv2
      obtain ⟨t, ht⟩ : ∃ t, 1 + v = t := ⟨_, rfl⟩
      have hqt : wq xs i = t := by unfold wq; omega
      have ht1 : 1 ≤ t := by omega
      have ht2 : t ≤ 100 := by omega
      have ht3 : t ≤ 1000000 := by omega
      have hv3 : v < 1000000000 := by omega
      have hmes : N - ((i : Int) + 1).toNat < N - (i : Int).toNat := by omega
      have HS := Aside0.mk (setS w.heap.size wr b m i 0 i t _ _ hS (by omega) (by omega) hB.size (by omega) (by omega))
      have hput : (St.many (wq xs) i 0).put i (0 + t) = St.many (wq xs) (i + 1) 0 := by rw [Nat.zero_add, ← hqt]; exact many_put _ _ (wq_pos _ _)
      rw [hput] at HS
      have r1 := nat_in hv3
      have r2 := one_in ht ht3
      have r4 : IntKind.u16.wrap (i : Int) = (i : Int) := u16_in (by omega)
      have hv2 := HV.out
      have HB := Aside0.mk (And.intro hS (And.intro ho hB))
      have HM := Aside0.mk (And.intro hin hmes)
      clear hS ho hB hz hv ht hqt ht1 ht2 ht3 hv3 hmes hin hput hvv h3
      go_wp2_with (go_at_call 8; refine HS.out.mono ?_; rintro e w5 ⟨rfl, own5, q1, q2, q3⟩; have A5 := Aside0.mk (And.intro q2 (And.intro (low_step HB.out.1 HB.out.2.1 HB.out.2.2 HB.out.2.2.size q3) (fun k (hk : k < w.heap.size) => (q1 k (Nat.lt_of_lt_of_le hk HB.out.2.2.size)).trans (HB.out.2.1 k hk)))); clear q1 q2 q3)
      obtain ⟨p2, p3, p4⟩ := A5.out
      exact ⟨⟨i + 1, own5, by congr 1, HM.out.1, p2, p4, p3⟩, HM.out.2⟩
    · have hiN : i = N := by omega
      subst hiN
      have hi10' : ¬ (i : Int) < (i : Int) := by omega
      have HB := Aside0.mk (And.intro hS (And.intro ho hB))
      clear hS ho hB h3 hin
      go_wp2
      go_loopw [6, 7] (fun x6 x7 wr => ∃ (p s : Nat) (own : Nat → Nat), x6 = .int .i64 s ∧ x7 = .int .i64 p ∧ 1 ≤ p ∧ p ≤ 91 ∧ s + (St.many (wq xs) i (p - 1)).c = i ∧ IsS w.heap.size wr b m i (p - 1) (St.many (wq xs) i (p - 1)) own ∧ (∀ k, k < w.heap.size → own k = 32) ∧ Below w.heap.size w wr) (fun _ x7 _ => 91 - natOf x7)
      case atStart => exact ⟨1, 0, own, rfl, rfl, by omega, by omega, by rw [many_all _ _ (wq_pos xs)]; omega, HB.out.1, HB.out.2.1, HB.out.2.2⟩
      case round =>
        obtain ⟨p, s, own2, rfl, rfl, p1, p2, ps, pS, po, pB⟩ := hrel
        by_cases hp : p ≤ 90
        · have hp' : (p : Int) ≤ 90 := by omega
          have hdue := many_due (wq xs) i (p - 1)
          have hnext := many_next (wq xs) i (p - 1)
          have hcnt := many_step (wq xs) i (p - 1)
          rw [show p - 1 + 1 = p by omega] at hdue hnext hcnt
          have htw := tick_walk w.heap.size wr b m i (p - 1) _ _ pS (by have := HN.out.2; omega) (by omega) (tickOf (wq xs) i p) (by rw [show p - 1 + 1 = p by omega]; exact hdue) (tickOf_asc _ _ _) (by have := tickOf_len (wq xs) i p; have := HN.out.2; omega)
          rw [hnext, show p - 1 + 1 = p by omega] at htw
          have hmes : 91 - ((p : Int) + 1).toNat < 91 - (p : Int).toNat := by omega
          have hp9 : p + 1 ≤ 91 := by omega
          have hsc : s + (tickOf (wq xs) i p).length + (St.many (wq xs) i p).c = i := by omega
          have HP := Aside0.mk (And.intro pS (And.intro po (And.intro pB (And.intro hmes (And.intro hp9 (And.intro hsc p1))))))
          clear pS po pB hmes hp9 hdue hnext p1 p2 hcnt hsc hp ps
          go_wp2_with (go_at_call 9; refine htw.mono ?_; rintro e w6 ⟨u6, own6, rfl, q1, q2, q3, q4⟩; have A6 := Aside0.mk (And.intro q1 (And.intro q3 (And.intro (low_step HP.out.1 HP.out.2.1 HP.out.2.2.1 HP.out.2.2.1.size q4) (fun k (hk : k < w.heap.size) => (q2 k (Nat.lt_of_lt_of_le hk HP.out.2.2.1.size)).trans (HP.out.2.1 k hk))))); obtain ⟨x6, c6, rfl⟩ := row_shape q1; clear q1 q2 q3 q4)
          go_loopw [6, 9] (fun y6 y9 wq' => ∃ k : Nat, y6 = .int .i64 (s + k : Nat) ∧ y9 = .int .i64 k ∧ k ≤ (tickOf (wq xs) i p).length ∧ Below w6.heap.size w6 wq') (fun _ y9 _ => (tickOf (wq xs) i p).length - natOf y9)
          case atStart => exact ⟨0, rfl, rfl, Nat.zero_le _, Below.refl _ _⟩
          case round =>
            obtain ⟨k, rfl, rfl, k1, kB⟩ := hrel
            by_cases hk : k < (tickOf (wq xs) i p).length
            · obtain ⟨g6, o6, c7, he, hc6⟩ := row_cell A6.out.1 (by omega)
              cases he
              obtain ⟨d, hd⟩ : ∃ d, (tickOf (wq xs) i p)[k] = d := ⟨_, rfl⟩
              have hdm : d ∈ tickOf (wq xs) i p := by rw [← hd]; exact List.getElem_mem hk
              rw [mem_tickOf] at hdm
              have hck := hc6 k hk
              rw [hd] at hck
              have hck2 := below_cell kB hck
              have hdn : (d : Int) < (n : Int) := by have := HN.out.1; omega
              obtain ⟨ad, hA, hcell⟩ := Kd.at_int (Kd.C_below HC.out.1 (A6.out.2.2.1.trans (kB.mono A6.out.2.2.1.size))) (d : Int) (by omega) hdn
              cases hA
              rw [Int.toNat_natCast] at hcell
              have hv2 := wd_eq xs d
              have hv := wd_lt xs d
              obtain ⟨z, hz⟩ : ∃ z, rd xs (d : Int) = z := ⟨_, rfl⟩
              rw [hz] at hcell hv2
              obtain ⟨v, hvv⟩ : ∃ v, wd xs d = v := ⟨_, rfl⟩
              rw [hvv] at hv2 hv
              have HV := Aside0.mk hv2
              clear hv2
              have hpv : 1 + v = p := by have := hdm.2; unfold wq at this; omega
              have hkl : (k : Int) < ((tickOf (wq xs) i p).length : Int) := by omega
              have g1 : decide (i ≤ d) = false := by simp; omega
              have hmes : (tickOf (wq xs) i p).length - ((k : Int) + 1).toNat < (tickOf (wq xs) i p).length - (k : Int).toNat := by omega
              have hv9 : v < 1000000000 := by omega
              have hp9 : p ≤ 1000000 := by omega
              have r1 := nat_in hv9
              have r2 := one_in hpv hp9
              have hv2 := HV.out
              clear hv9 hp9
              obtain ⟨s', hs'⟩ : ∃ s', s + k = s' := ⟨_, rfl⟩
              rw [hs']
              have hs20 : (s' : Int) < 1000 := by have := HP.out.2.2.2.2.2.1; have := HN.out.2; clear r1 r2; omega
              have hnx : s' + 1 = s + (k + 1) := by clear r1 r2; omega
              by_cases hk0 : k = 0
              · subst hk0
                rw [Nat.add_zero] at hck2
                have HB2 := Aside0.mk (And.intro hmes (And.intro kB (And.intro hk hnx)))
                clear hmes kB hk hck hz hv hpv hdm hc6 hd k1 hvv hnx hs'
                go_wp2_with fail
                go_quiet (fail)
                go_wp2
                obtain ⟨m1, m2, m3, m4⟩ := HB2.out
                exact ⟨⟨1, by rw [← m4]; exact by congr 1, by congr 1, m3, m2.trans ((below_drewN' _ nq).mono m2.size)⟩, m1⟩
              · obtain ⟨k', hk'⟩ : ∃ k', k' + 1 = k := ⟨k - 1, by clear r1 r2; omega⟩
                have hkp : 0 < k := by clear r1 r2; omega
                have hkq : k' < (tickOf (wq xs) i p).length := by clear r1 r2; omega
                obtain ⟨d', hd'⟩ : ∃ d', (tickOf (wq xs) i p)[k'] = d' := ⟨_, rfl⟩
                have hdd : d' < d := by
                  rw [← hd', ← hd]
                  exact List.pairwise_iff_getElem.1 (tickOf_asc (wq xs) i p) k' k hkq hk (by clear r1 r2; omega)
                have hck' := hc6 k' hkq
                rw [hd'] at hck'
                have hck3 := below_cell kB hck'
                have hkl' : (k' : Int) < ((tickOf (wq xs) i p).length : Int) := by clear r1 r2; omega
                have g2 : decide (d ≤ d') = false := by clear r1 r2; simp; omega
                have hk9 : k' ≤ 1000000 := by have := tickOf_len (wq xs) i p; have := HN.out.2; clear r1 r2; omega
                have HB2 := Aside0.mk (And.intro hmes (And.intro kB (And.intro hk hnx)))
                clear hmes kB hk hck hz hv hpv hdm hc6 hd k1 hvv hnx hs' hck' hd' hdd hk0 hkq
                have hkb : (k : Int) < 1000000 := by have := tickOf_len (wq xs) i p; have := HN.out.2; clear r1 r2; omega
                have g4 := sub_in hk' hk9
                have g5 := sub_in' hk' hk9
                clear hk' hk9
                go_wp2_with fail
                go_quiet (fail)
                go_wp2
                obtain ⟨m1, m2, m3, m4⟩ := HB2.out
                exact ⟨⟨k + 1, by rw [← m4]; exact by congr 1, by congr 1, m3, m2.trans ((below_drewN' _ nq).mono m2.size)⟩, m1⟩
            · have hkl : k = (tickOf (wq xs) i p).length := by omega
              subst hkl
              have HB2 := Aside0.mk kB
              clear kB k1 hk
              go_wp2
              have hkB := HB2.out
              obtain ⟨m1, m2, m3, m4⟩ := A6.out
              obtain ⟨l1, l2, l3, l4, l5, l6, l7⟩ := HP.out
              exact ⟨⟨p + 1, _, own6, rfl, by congr 1, Nat.succ_le_succ (Nat.zero_le _), l5, l6, m2.below hkB, m4, m3.trans (hkB.mono m3.size)⟩, l4⟩
        · have hpe : p = 91 := by omega
          subst hpe
          have hz : (St.many (wq xs) i (91 - 1)).c = 0 := many_end _ _ _ (fun x => wq_le xs x)
          have hsi : s = i := by omega
          subst hsi
          have hlen := lenS w.heap.size wr b m s (91 - 1) _ _ pS
          rw [hz] at hlen
          have HP := Aside0.mk pB
          clear pS pB po p1 p2 hz ps hp
          go_wp2_with (go_at_call 10; refine hlen.mono ?_; rintro e w6 ⟨rfl, rfl⟩)
          go_ret
          exact ⟨rfl, HP.out⟩
theorem all_any (A : Option Addr) (n c : Nat) (xs : List Int) (w : World) (hC : (Kd.int .i64).C w A n xs) (hn : n ≤ 140737488355328) :
    Calls Try.prog 4 #[.slice A n c] w fun e w' => e = .returned (.bool true) ∧ Below w.heap.size w w' := by
  by_cases h : n ≤ 20
  · exact all_walk xs A n c n w hC hn (by rw [if_neg (by omega)]) (Nat.le_refl _) h
  · exact all_walk xs A n c 20 w hC hn (by rw [if_pos (by omega)]; rfl) (by omega) (by omega)
end Go.Proofs.Ytjiligngjlejmaa.Vit
