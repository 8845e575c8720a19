/- The document's wheel: DocTick, walked. Each theorem says its own conditions. -/
import Derived.Test.YtjiligngjlejmaaTc
import Derived.BigRegion
namespace Go.Proofs.Ytjiligngjlejmaa.Vit
open Go.Shelf Go.RowKit Go.Proofs.YtjiligngjlejmaaW.PrintWords Go.Proofs.YtjiligngjlejmaaW.PrintLast Go.Proofs.YtjiligngjlejmaaW.PrintMore Go.Proofs.Ytjiligngjlejmaa.Mem Go.Proofs.Ytjiligngjlejmaa.Srt
attribute [local go_sem] max2_int min2_int max_two min_two max_three min_three max_four min_four   -- for this text's walks alone
set_option linter.unusedVariables false
set_option linter.unusedSimpArgs false

theorem sub_i {k k' : Nat} (h : k' + 1 = k) (h9 : k' ≤ 1000000) : wrap64 ((k : Int) - 1) = (k' : Int) := by rw [wrap64_in _ (by omega) (by omega)]; omega
theorem sub_i' {k k' : Nat} (h : k' + 1 = k) (h9 : k' ≤ 1000000) : IntKind.i64.wrap ((k : Int) - 1) = (k' : Int) := by
  have := IntKind.wrap_i64 ((k : Int) - 1)
  omega
theorem set_below {B : Nat} {W1 w : World} (h : Below B W1 w) (hB : B ≤ w.heap.size) {p : Addr} (hp : B ≤ p.block) (u : Value) : Below B W1 (w.setCell p u) :=
  h.trans ((Chg.set_ (S := fun k => k = p.block) (Chg.refl _ w) (p := p) (fun _ => rfl) u).below hB (fun i hi => by subst hi; exact hp))
theorem one_set {W1 w : World} {N0 g8 n c8 j : Nat} {x : Int} {xs : List Int} {u : Value} {l : List (Nat × Nat)} {ok : Nat → Prop} (hB : Below N0 W1 w) (hs : N0 ≤ w.heap.size) (hg : N0 ≤ g8) (ho : w.ownsRow N0 3 1 (.slice (some ⟨g8, 0, none⟩) n c8) n (nums .i64 xs)) (hr : kDue.R 55 w N0 ok u (dz l)) :
    Below N0 W1 (w.setCell ⟨g8, j, none⟩ (.int .i64 x)) ∧ N0 ≤ (w.setCell ⟨g8, j, none⟩ (.int .i64 x)).heap.size ∧ (w.setCell ⟨g8, j, none⟩ (.int .i64 x)).ownsRow N0 3 1 (.slice (some ⟨g8, 0, none⟩) n c8) n (nums .i64 (xs.set j x)) ∧ kDue.R 55 (w.setCell ⟨g8, j, none⟩ (.int .i64 x)) N0 ok u (dz l) := by
  obtain ⟨h1, h2⟩ := own_store ho (j : Int) x
  rw [Int.toNat_natCast] at h1 h2
  exact ⟨set_below hB hs hg _, by simp [World.setCell]; exact hs, h1, due_keep hr ho h2⟩
set_option maxHeartbeats 3200000 in
set_option maxRecDepth 100000 in
theorem doc_tick (s0 : Nat) (W : World) (b now : Nat) (l : List (Nat × Nat)) (ok : Nat → Prop) (h : IsD s0 W b now l ok) (hl : l.length ≤ 1000000) (hs0 : s0 ≤ W.heap.size) (hnow : now ≤ 1000000) :
    Calls Try.prog 16 #[.pointer (some ⟨b, 0, none⟩)] W fun e w' => ∃ A c, e = .returned (.slice A (srt (outs (now + 1) l)).length c) ∧ (Kd.int .i64).C w' A (srt (outs (now + 1) l)).length (ints (srt (outs (now + 1) l))) ∧
      IsD s0 w' b (now + 1) (lefts (now + 1) l) (fun k => W.heap.size ≤ k) ∧ Chg (fun k => k = b) W w' := by
  obtain ⟨t, ht⟩ : ∃ t, now + 1 = t := ⟨_, rfl⟩
  rw [ht]
  have ht9 : t ≤ 1000000000 := by omega
  have h0 := h
  obtain ⟨v, hb, hR⟩ := h.row
  obtain ⟨A, c, rfl⟩ := Kd.R_slice hR
  rw [dz_len] at hb hR
  have d0 : W.cell? ⟨b, 0, none⟩ = some (.int .i64 (now : Int)) := blk_cell hb 0
  have hbf : W.frozen? ⟨b, 0, none⟩ = false := blk_frozen hb 0
  have hbl := blk_lt hb
  have hT := h0.ticked t
  have hblk := blk_set hb 0 (.int .i64 (t : Int))
  have e0 : (W.setCell ⟨b, 0, none⟩ (.int .i64 (t : Int))).cell? ⟨b, 0, none⟩ = some (.int .i64 (t : Int)) := blk_cell hblk 0
  have e1 : (W.setCell ⟨b, 0, none⟩ (.int .i64 (t : Int))).cell? ⟨b, 1, none⟩ = some (.slice A l.length c) := blk_cell hblk 1
  have hR1 : kDue.R 55 (W.setCell ⟨b, 0, none⟩ (.int .i64 (t : Int))) s0 ok (.slice A l.length c) (dz l) := Kd.R_step hR (fun j hj hlt => Below.heap_setCell _ _ _ j (fun e => h0.away (by rw [← show j = b from e]; exact hj)))
  have hW1 : W.heap.size = (W.setCell ⟨b, 0, none⟩ (.int .i64 (t : Int))).heap.size := by simp [World.setCell]
  have hC1 : Chg (fun k => k = b) W (W.setCell ⟨b, 0, none⟩ (.int .i64 (t : Int))) := Chg.set_ (S := fun k => k = b) (Chg.refl _ W) (p := ⟨b, 0, none⟩) (fun _ => rfl) _
  have HH := Aside0.mk (And.intro hT (And.intro hR1 (And.intro hW1 (And.intro hC1 (And.intro hblk (And.intro hbl hs0))))))
  have r3 : wrap64 ((now : Int) + 1) = (t : Int) := add_in ht ht9
  clear h h0 hb hR hT hblk hR1 hW1 hC1 ht hnow hbl hs0
  go_enter Try.func16, Try.ntmps16
  go_wp2
  rw [r3]
  go_loopw [3, 4, 5, 6] (fun x y z q wr => ∃ k : Nat, z = .int .i64 k ∧ k ≤ l.length ∧ Below W.heap.size (W.setCell ⟨b, 0, none⟩ (.int .i64 (t : Int))) wr ∧
    wr.ownsRow W.heap.size 3 1 x (srt (outs t (l.take k))).length (nums .i64 (ints (srt (outs t (l.take k))))) ∧
    kDue.R 55 wr W.heap.size (fun i => W.heap.size ≤ i) y (dz (lefts t (l.take k)))) (fun _ _ z _ _ => l.length - natOf z)
  case atStart => exact ⟨0, rfl, Nat.zero_le _, Below.refl _ _, by simp [outs, srt, ints, nums]; exact own_nil _ _ _ _, Kd.R_nil _ _ _ _ _⟩
  case round =>
    obtain ⟨k, rfl, hk, hB, ho, hr⟩ := hrel
    have hsz := HH.out.2.2.1
    have hB1 : Below (W.setCell ⟨b, 0, none⟩ (.int .i64 (t : Int))).heap.size (W.setCell ⟨b, 0, none⟩ (.int .i64 (t : Int))) wr := by rw [← hsz]; exact hB
    have g0 := below_cell hB1 e0
    have g1 := below_cell hB1 e1
    have hwsz : W.heap.size ≤ wr.heap.size := by rw [hsz]; exact hB1.size
    by_cases hkl : k < l.length
    · obtain ⟨g, c2, hA, _⟩ := Kd.R_form HH.out.2.1 (by rw [dz_len]; omega)
      obtain ⟨rfl, hxx, rfl⟩ : A = some ⟨g, 0, none⟩ ∧ l.length = (dz l).length ∧ c = c2 := by injection hA with q1 q2 q3; exact ⟨q1, q2, q3⟩
      clear hxx hA
      obtain ⟨hc0, hc1⟩ := due_cell (Kd.R_below HH.out.2.1 hB1) k hkl
      have hot := outs_take t l k hkl
      have hlt := lefts_take t l k hkl
      obtain ⟨a, ha⟩ : ∃ a, l[k].1 = a := ⟨_, rfl⟩
      obtain ⟨ta, hta⟩ : ∃ ta, l[k].2 = ta := ⟨_, rfl⟩
      have hpa : l[k] = (a, ta) := by rw [← ha, ← hta]
      rw [ha] at hc0 hot
      rw [hta] at hc1 hot hlt
      rw [hpa] at hlt
      have HA : Aside0 (∀ h : k < l.length, (l[k]'h).1 = a) := ⟨fun _ => ha⟩
      clear hpa ha hta
      have hkl' : (k : Int) < (l.length : Int) := by omega
      have hmes : l.length - ((k : Int) + 1).toNat < l.length - (k : Int).toNat := by omega
      by_cases htt : ta = t
      · subst htt
        rw [if_pos rfl] at hot
        rw [if_pos rfl, List.append_nil] at hlt
        obtain ⟨P, hP⟩ : ∃ P, srt (outs ta (l.take k)) = P := ⟨_, rfl⟩
        have hP9 : P.length ≤ 1000000 := by
          rw [← hP, srt_len]
          have := outs_len ta (l.take k)
          rw [List.length_take] at this
          omega
        rw [hP] at ho
        obtain ⟨A3, c3, rfl⟩ := own_slice ho
        have ho' : (wr.drewN 0).ownsRow W.heap.size 3 1 (.slice A3 P.length c3) (ints P).length (nums .i64 (ints P)) := by rw [ints_len]; exact ho
        have hl8 : ((ints P).length + 1) * 8 ≤ 140737488355328 := by
          rw [ints_len]
          omega
        have hins : ∀ j, j ≤ P.length → (∀ i (hi : i < P.length), j ≤ i → a < P[i]) → (∀ i (hi : i < P.length), i + 1 = j → P[i] ≤ a) → insA P j a = srt (outs ta (l.take (k + 1))) := by
          subst hP
          intro j h1 h2 h3
          rw [hot]
          exact insA_srt _ j a h1 h2 h3
        have HR := Aside0.mk (And.intro hB (And.intro ho' (And.intro hr (And.intro hins (And.intro hlt (And.intro hwsz (And.intro hl8 (And.intro hkl hmes))))))))
        clear hB ho' ho hr hins hlt hwsz hB1 hsz hl8 hkl hmes hk r3 hot hP
        go_upto_region 7 with fail
        go_quiet (fail)
        go_wp2_with (at_builtin; go_loud (refine print_append_num (w0 := wr.drewN nq) (W := wr.drewN nq) W.heap.size (by rfl) _ _ _ 3 .i64 8 (by rfl) Try.underlying23 info3 (by decide) _ (ints P) (a : Int) (by rfl) (by rfl) (pw_own_below HR.out.2.1 (pw_below_drewN (Below.refl _ _) nq)) (Below.refl _ _) HR.out.2.2.2.2.2.1 HR.out.2.2.2.2.2.2.1 ?_; intro v7 w7 hR7 hB7 hG7 hat7; have H7 := Aside0.mk (And.intro hR7 (And.intro hG7 hat7)); clear hR7 hB7 hG7 hat7))
        obtain ⟨g8, c8, rfl, hgb, hgl⟩ := H7.out.1.form (by rw [List.length_append]; exact Nat.succ_pos _)
        have hn8 : (ints P ++ [(a : Int)]).length = P.length + 1 := by rw [List.length_append, ints_len]; rfl
        obtain ⟨r1, r2, r3, r4, r5, r6, r7, r8, r9⟩ := HR.out
        have hd : Below (wr.drewN nq).heap.size wr (wr.drewN nq) := pw_below_drewN (Below.refl _ _) nq
        have hb7 : Below W.heap.size (W.setCell ⟨b, 0, none⟩ (.int .i64 (ta : Int))) w7 := pw_below_grown (pw_below_drewN r1 nq) _ r6 H7.out.2.1 (fun i hi => own_base r2 i hi)
        have hr7 := due_keep (Kd.R_drewN r3 nq) (pw_own_below r2 hd) H7.out.2.1
        have ho7 := H7.out.1
        rw [hn8] at ho7 ⊢
        have hgw : W.heap.size ≤ g8 := hgb
        have H8 := Aside0.mk (And.intro hb7 (And.intro hr7 (And.intro ho7 (And.intro hgw (And.intro hgl (And.intro r4 (And.intro r5 (And.intro r8 r9))))))))
        clear hb7 hr7 ho7 hgw hgl r1 r2 r3 r4 r5 r6 r7 r8 r9 hd hgb hn8 H7 HR
        go_loopw [6] (fun y wx => ∃ j : Nat, y = .int .i64 j ∧ j ≤ P.length ∧ (∀ i (hi : i < P.length), j ≤ i → a < P[i]) ∧ Below W.heap.size (W.setCell ⟨b, 0, none⟩ (.int .i64 (ta : Int))) wx ∧
          wx.ownsRow W.heap.size 3 1 (.slice (some ⟨g8, 0, none⟩) (P.length + 1) c8) (P.length + 1) (nums .i64 (ints (insA P j a))) ∧ kDue.R 55 wx W.heap.size (fun i => W.heap.size ≤ i) u4 (dz (lefts ta (l.take k)))) (fun y _ => natOf y)
        case atStart =>
          refine ⟨P.length, rfl, Nat.le_refl _, fun i hi h => absurd hi (Nat.not_lt.2 h), H8.out.1, ?_, H8.out.2.1⟩
          have e : insA P P.length a = P ++ [a] := by simp [insA]
          rw [e, ints_snoc]
          exact H8.out.2.2.1
        case round =>
          obtain ⟨j, rfl, hj, hhi, hBx, hox, hrx⟩ := hrel
          have hsz := HH.out.2.2.1
          have hBx1 : Below (W.setCell ⟨b, 0, none⟩ (.int .i64 (ta : Int))).heap.size (W.setCell ⟨b, 0, none⟩ (.int .i64 (ta : Int))) wr := by rw [← hsz]; exact hBx
          have f0 := below_cell hBx1 e0
          have f1 := below_cell hBx1 e1
          obtain ⟨f2, _⟩ := due_cell (Kd.R_below HH.out.2.1 hBx1) k H8.out.2.2.2.2.2.2.2.1
          rw [HA.out] at f2
          have hjP : (j : Int) ≤ (P.length : Int) := by omega
          have hwx : W.heap.size ≤ wr.heap.size := by rw [hsz]; exact hBx1.size
          have HX := Aside0.mk (And.intro hhi (And.intro hBx (And.intro hox (And.intro hrx hwx))))
          clear hhi hBx hox hrx hBx1 hsz hwx
          have hend : (∀ (i : Nat) (hi : i < P.length), i + 1 = j → P[i] ≤ a) → ∀ q, ∃ k_1 : Nat, Value.int .i64 ((k : Int) + 1) = Value.int .i64 (k_1 : Int) ∧ k_1 ≤ l.length ∧ Below W.heap.size (W.setCell ⟨b, 0, none⟩ (.int .i64 (ta : Int))) (wr.drewN q) ∧
              (wr.drewN q).ownsRow W.heap.size 3 1 (.slice (some ⟨g8, 0, none⟩) (P.length + 1) c8) (srt (outs ta (l.take k_1))).length (nums .i64 (ints (srt (outs ta (l.take k_1))))) ∧
              kDue.R 55 (wr.drewN q) W.heap.size (fun i => W.heap.size ≤ i) u4 (dz (lefts ta (l.take k_1))) := by
            intro hlo q
            obtain ⟨s1, s2, s3, s4, s5, s6, s7, s8, s9⟩ := H8.out
            obtain ⟨x1, x2, x3, x4, x5⟩ := HX.out
            have hi := s6 j hj x1 hlo
            refine ⟨k + 1, by congr 1, s8, pw_below_drewN x2 q, ?_, ?_⟩
            · rw [← hi, insA_len P j a hj]
              exact pw_own_below x3 (pw_below_drewN (Below.refl _ _) q)
            · rw [s7]
              exact Kd.R_drewN x4 q
          have HE := Aside0.mk hend
          clear hend
          by_cases hj0 : 0 < j
          · obtain ⟨m, hm⟩ : ∃ m, m + 1 = j := ⟨j - 1, by omega⟩
            have hmP : m < P.length := by omega
            obtain ⟨x, hx⟩ : ∃ x, P[m] = x := ⟨_, rfl⟩
            have hrd := insA_rd P j a hj0 hj
            have hjm : j - 1 = m := by omega
            have hxx : P[j - 1]'(by omega) = x := by rw [← hx]; congr 1
            rw [hxx, hjm] at hrd
            obtain ⟨v0, v1⟩ := own_at HX.out.2.2.1 (m : Int) (by omega) (by omega)
            obtain ⟨v3, v2⟩ := own_at HX.out.2.2.1 (j : Int) (by omega) (by omega)
            rw [Int.toNat_natCast, hrd] at v0
            rw [Int.toNat_natCast] at v1 v2 v3
            obtain ⟨x3, hx3⟩ : ∃ x3, rd (ints (insA P j a)) (j : Int) = x3 := ⟨_, rfl⟩
            rw [hx3] at v3
            clear hx3
            have hsw := insA_swap P j a x hj0 hj hxx
            rw [hjm] at hsw
            have hm9 : m ≤ 1000000 := by omega
            have w1 := sub_i hm hm9
            have w2 := sub_i' hm hm9
            have hmi : (m : Int) < (P.length : Int) := by clear w1 w2; omega
            have hji : (j : Int) < (P.length : Int) + 1 := by clear w1 w2; omega
            have hmi1 : (m : Int) < (P.length : Int) + 1 := by clear w1 w2; omega
            have hxi : ∀ (i : Nat) (hi : i < P.length), i + 1 = j → P[i] = x := fun i hi hij => by
              have : i = m := by clear w1 w2; omega
              subst this
              exact hx
            have hjn : natOf (.int .i64 (m : Int)) < natOf (.int .i64 (j : Int)) := by clear w1 w2; show (m : Int).toNat < (j : Int).toNat; omega
            have w5 : ∀ q u, ((wr.drewN q).setCell ⟨g8, j, none⟩ u).cell? ⟨g8, m, none⟩ = some (.int .i64 (x : Int)) := fun q u => (set_off _ _ (by clear w1 w2; omega) _).trans v0
            have w6 : ∀ q u, ((wr.drewN q).setCell ⟨g8, j, none⟩ u).frozen? ⟨g8, m, none⟩ = false := fun q u => by rw [World.frozen?_setCell]; exact v1
            have HS := Aside0.mk (And.intro hsw (And.intro hxi (And.intro hm hjn)))
            clear hsw hrd hxx hjm hx hm hm9 hmP hxi hjn
            by_cases hax : a < x
            · have hax' : (a : Int) < (x : Int) := by clear w1 w2; omega
              have hjj : (0 : Int) < (j : Int) := by clear w1 w2; omega
              go_wp2_with fail
              go_quiet (fail)
              go_wp2_with fail
              go_region
              all_goals go_wp2
              obtain ⟨y1, y2, y3, y4⟩ := HS.out
              obtain ⟨x1, x2, x3', x4, x5⟩ := HX.out
              obtain ⟨s1, s2, s3, s4, s5, s6, s7, s8, s9⟩ := H8.out
              have hws : W.heap.size ≤ (wr.drewN (nq + 1)).heap.size := x5
              have hd : Below wr.heap.size wr (wr.drewN (nq + 1)) := pw_below_drewN (Below.refl _ _) _
              obtain ⟨z1, z2, z3, z4⟩ := one_set (j := j) (x := (x : Int)) (pw_below_drewN x2 (nq + 1)) hws s4 (pw_own_below x3' hd) (Kd.R_drewN x4 (nq + 1))
              obtain ⟨z5, z6, z7, z8⟩ := one_set (j := m) (x := (a : Int)) z1 z2 s4 z3 z4
              rw [y1] at z7
              refine ⟨⟨m, rfl, by clear w1 w2; omega, fun i hi hmi => ?_, z5, z7, z8⟩, y4⟩
              by_cases hij : i + 1 = j
              · rw [y2 i hi hij]; exact hax
              · exact x1 i hi (by clear w1 w2; omega)
            · have hax' : ¬ (a : Int) < (x : Int) := by clear w1 w2; omega
              have hjj : (0 : Int) < (j : Int) := by clear w1 w2; omega
              go_wp2_with fail
              go_quiet (fail)
              go_wp2_with fail
              obtain ⟨y1, y2, y3, y4⟩ := HS.out
              exact ⟨HE.out (fun i hi hij => by rw [y2 i hi hij]; clear w1 w2; omega) nq, H8.out.2.2.2.2.2.2.2.2⟩
          · have hj0' : ¬ (0 : Int) < (j : Int) := by omega
            go_wp2_with fail
            go_quiet (fail)
            go_wp2_with fail
            exact ⟨HE.out (fun i hi hij => by omega) nq, H8.out.2.2.2.2.2.2.2.2⟩
      · have htt2 : ¬ (ta : Int) = (t : Int) := by omega
        rw [if_neg htt, List.append_nil] at hot
        rw [if_neg htt] at hlt
        have hl8 : ((dz (lefts t (l.take k))).length + 1) * 16 ≤ 140737488355328 := by
          rw [dz_len]
          have := lefts_len t (l.take k)
          rw [List.length_take] at this
          omega
        have HR := Aside0.mk (And.intro hB (And.intro ho (And.intro hr (And.intro hot (And.intro hlt (And.intro hwsz (And.intro hl8 (And.intro hkl hmes))))))))
        clear hB ho hr hot hlt hwsz hB1 hsz hl8 hkl hmes hk r3
        go_upto_region 7 with fail
        go_quiet (fail)
        go_wp2_with (at_builtin; go_loud (refine Kd.R_append kDue (w0 := wr.drewN nq) (W := wr.drewN nq) W.heap.size (by rfl) _ _ _ _ (.agg #[.int .i64 0, .int .i64 0]) 16 (by rfl) Try.underlying39 infoD rfl (by decide) (by decide) _ (dz (lefts t (l.take k))) ((a : Int), (ta : Int)) [.int .i64 (a : Int), .int .i64 (ta : Int)] (fun i => W.heap.size ≤ i) (fun _ => False) (by rfl) (by rfl) ⟨[.int .i64 (a : Int)], [.int .i64 (ta : Int)], rfl, rfl, rfl⟩ (fun _ hk => hk.elim) (fun i hi => Nat.le_trans HR.out.2.2.2.2.2.1 hi) (Kd.R_drewN HR.out.2.2.1 nq) (Below.refl _ _) HR.out.2.2.2.2.2.1 HR.out.2.2.2.2.2.2.1 ?_; intro v7 w7 hR7 hB7 hG7 hat7; have H7 := Aside0.mk (And.intro hR7 (And.intro hG7 hat7)); clear hR7 hB7 hG7 hat7))
        obtain ⟨r1, r2, r3, r4, r5, r6, r7, r8, r9⟩ := HR.out
        have hd : Below (wr.drewN nq).heap.size wr (wr.drewN nq) := pw_below_drewN (Below.refl _ _) nq
        refine ⟨⟨k + 1, by congr 1, r8, pw_below_grown (pw_below_drewN r1 nq) _ r6 H7.out.2.1 (fun i hi => r3.1 i hi), ?_, ?_⟩, r9⟩
        · rw [r4]
          exact num_keep (Kd.R_drewN r3 nq) (pw_own_below r2 hd) H7.out.2.1
        · rw [r5, dz_app]
          exact H7.out.1
    · have hkl2 : k = l.length := by omega
      subst hkl2
      rw [List.take_length] at ho hr
      obtain ⟨A3, c3, rfl⟩ := own_slice ho
      obtain ⟨A4, c4, rfl⟩ := Kd.R_slice hr
      rw [dz_len] at hr ⊢
      have g1f : wr.frozen? ⟨b, 1, none⟩ = false := blk_frozen (below_cell_blk hB1 HH.out.2.2.2.2.1) 1
      have HR := Aside0.mk (And.intro hB1 (And.intro ho (And.intro hr hsz)))
      clear hB1 hB ho hr hsz hwsz
      go_wp2_with fail
      all_goals (first | go_ret | go_end0 | refine bodyPost_ret (results_tmp rfl _ _ _) rfl ?_)
      obtain ⟨x1, x2, x3, x4⟩ := HR.out
      obtain ⟨h1, h2, h3, h4, h5, h6, h7⟩ := HH.out
      have hbk := below_cell_blk x1 h5
      have hC : Chg (fun k => k = b) W (wr.setCell ⟨b, 1, none⟩ (.slice A4 (lefts t l).length c4)) := Chg.set_ (S := fun k => k = b) (h4.trans (Chg.of_below x1 (fun _ => False)) (fun _ _ hf => hf.elim)) (p := ⟨b, 1, none⟩) (fun _ => rfl) _
      have ho' : (wr.setCell ⟨b, 1, none⟩ (.slice A4 (lefts t l).length c4)).ownsRow W.heap.size 3 1 (.slice A3 (srt (outs t l)).length c3) (srt (outs t l)).length (nums .i64 (ints (srt (outs t l)))) := own_setCell x2 (own_ne x2 hbk (by decide)) _
      refine ⟨A3, c3, rfl, ?_, ⟨⟨_, blk_set hbk 1 _, ?_⟩, Nat.not_le.2 h6⟩, hC⟩
      · have hl : (srt (outs t l)).length = (ints (srt (outs t l))).length := (ints_len _).symm
        rw [hl] at ho' ⊢
        obtain ⟨A9, c9, h9, _, hr9⟩ := Kd.R_reads (Kd.R_of_own (enc := Value.int .i64) (h1 := fun _ => rfl) (ok := fun _ => True) ho' (fun _ _ => trivial))
        obtain ⟨rfl, _, _⟩ : A3 = A9 ∧ True ∧ True := by injection h9 with q1 q2 q3; exact ⟨q1, trivial, trivial⟩
        exact hr9
      · exact Kd.R_lower (Kd.R_step x3 (fun j hj hlt => Below.heap_setCell _ _ _ j (fun e => by have e' : j = b := e; subst e'; exact Nat.not_le.2 h6 hj))) h7
end Go.Proofs.Ytjiligngjlejmaa.Vit
