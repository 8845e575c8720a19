/- Contracts of the document's helpers for distances (shuttleref10.Version, shuttleref12.weigh, shuttleref07.Step by its edge), and plain words for the walk of Least: each theorem says its own conditions. -/
import Derived.Test.YticiilolmkbncaaDoorWm
import Derived.Test.YticiilolmkbncaaDoorWa
import Derived.Test.YticiilolmkbncaaDoorVy
namespace Go.Proofs.YticiilolmkbncaaDoor.Vit
open Go.RowKit Go.Proofs.YticiilolmkbncaaDoorW.PrintWords Go.Proofs.YticiilolmkbncaaDoorW.PrintLast Go.Proofs.YticiilolmkbncaaDoorW.PrintMore Go.Proofs.YticiilolmkbncaaDoor.Mem
attribute [local go_sem] max2_int min2_int max_two min_two max_three min_three max_four min_four   -- for this text's walks alone
set_option linter.unusedVariables false
set_option linter.unusedSimpArgs false

theorem vat_lt (s t : Nat) : vat s t < 4 := by unfold vat; omega
theorem Version_any (s t : Nat) (hs : s < 4) (w : World) : Calls Tryd.prog 70 #[.int .i64 (s : Int), .int .i64 (t : Int)] w fun e w' => e = .returned (.int .i64 (vat s t : Nat)) ∧ w = w' := by
  go_enter Tryd.func70, Tryd.ntmps70
  go_wp2_with fail
  go_loopw [5] (fun i wr => ∃ v : Nat, i = .int .i64 v ∧ v ≤ vat s t ∧ wr = w) (fun i _ => 4 - (intOf i).toNat)
  case atStart => exact ⟨0, rfl, Nat.zero_le _, rfl⟩
  case round =>
    obtain ⟨v, rfl, hv, rfl⟩ := hrel
    have h4 := vat_lt s t
    have hv4 : v < 4 := by omega
    have hlt : (v : Int) < 4 := by omega
    have hst := fun W => Stream10_any v t hv4 W
    obtain ⟨x, hx⟩ : ∃ x, strm v t = x := ⟨_, rfl⟩
    rw [hx] at hst
    have HS := Aside0.mk hst
    by_cases he : v = vat s t
    · have hxs : x = s := by rw [← hx, he]; unfold strm vat; omega
      subst hxs
      have hb : ((x : Int) == (x : Int)) = true := by simp
      have HE := Aside0.mk he
      clear hst hx he hv
      go_wp2_with (go_at_call 57; refine (HS.out _).mono ?_; rintro e w1 ⟨rfl, rfl⟩)
      go_ret
      exact ⟨by have h9 := HE.out; rw [← h9]; rfl, rfl⟩
    · have hxs : x ≠ s := fun h => he (by rw [← h, ← hx]; unfold strm vat; omega)
      have hb : ((x : Int) == (s : Int)) = false := by simp; omega
      have hv1 : v + 1 ≤ vat s t := by omega
      clear hst hx he hv hxs
      go_wp2_with (go_at_call 57; refine (HS.out _).mono ?_; rintro e w1 ⟨rfl, rfl⟩)
      exact ⟨⟨v + 1, by go_num, hv1, trivial⟩, by simp only [intOf]; omega⟩
/-- The weights of the first bits of an edge. -/
def wsm (o w : Nat → Nat) (t : Nat) : Nat → Nat
  | 0 => 0
  | i + 1 => wsm o w t i + o i * w (vat i t)
theorem wsm_le (o w : Nat → Nat) (t : Nat) (ho : ∀ j, o j ≤ 1) (hw : ∀ v, w v ≤ 7) : ∀ i, wsm o w t i ≤ 7 * i
  | 0 => by simp [wsm]
  | i + 1 => by
    have h1 := wsm_le o w t ho hw i
    have h2 : o i * w (vat i t) ≤ 1 * 7 := Nat.mul_le_mul (ho i) (hw _)
    simp only [wsm]
    omega
theorem wsm_wgt (w : Nat → Nat) (t z : Nat) : wsm (ob z) w t 4 = wgt w t z := by simp [wsm, wgt]
/-- An edge's value, by its four bits. -/
abbrev edgeO (a b c : Int) (o : Nat → Nat) : Array Value := #[.int .i64 a, .int .i64 b, .int .u8 c, .int .u8 (o 0 : Nat), .int .u8 (o 1 : Nat), .int .u8 (o 2 : Nat), .int .u8 (o 3 : Nat)]
/-- Four weights. -/
abbrev fourW (w : Nat → Nat) : Array Value := #[.int .i64 (w 0 : Nat), .int .i64 (w 1 : Nat), .int .i64 (w 2 : Nat), .int .i64 (w 3 : Nat)]
theorem edgeO_get (a b c : Int) (o : Nat → Nat) (i : Nat) (h : i < 4) : (edgeO a b c o)[3 + i]? = some (.int .u8 (o i : Nat)) := by
  match i, h with
  | 0, _ => rfl
  | 1, _ => rfl
  | 2, _ => rfl
  | 3, _ => rfl
theorem fourW_get (w : Nat → Nat) (i : Nat) (h : i < 4) : (fourW w)[i]? = some (.int .i64 (w i : Nat)) := by
  match i, h with
  | 0, _ => rfl
  | 1, _ => rfl
  | 2, _ => rfl
  | 3, _ => rfl
set_option maxHeartbeats 1600000 in
set_option maxRecDepth 100000 in
theorem weigh_any (a b c : Int) (o w : Nat → Nat) (ho : ∀ j, o j ≤ 1) (hw : ∀ v, w v ≤ 7) (t : Nat) (W : World) :
    Calls Tryd.prog 58 #[.agg (edgeO a b c o), .int .i64 (t : Int), .agg (fourW w)] W fun e w' => e = .returned (.int .i64 (wsm o w t 4 : Nat)) ∧ Below W.heap.size W w' := by
  go_enter Tryd.func58, Tryd.ntmps58
  go_upto_region 1 with fail
  obtain ⟨W1, hW1⟩ : ∃ W1, ((W.alloc (.cells (edgeO a b c o) 85)).alloc (.cells (fourW w) 47)) = W1 := ⟨_, rfl⟩
  have h0 : W1.heap[W.heap.size]? = some (.cells (edgeO a b c o) 85 (0, 0)) := by
    rw [← hW1]
    exact blk_alloc (heap_alloc_new W _) _
  have h1 : W1.heap[W.heap.size + 1]? = some (.cells (fourW w) 47 (0, 0)) := by
    rw [← hW1]
    have := heap_alloc_new (W.alloc (.cells (edgeO a b c o) 85)) (.cells (fourW w) 47)
    rw [World.size_alloc] at this
    exact this
  have hB1 : Below W.heap.size W W1 := by rw [← hW1]; exact below_alloc (below_alloc (Below.refl _ _) _) _
  rw [hW1]
  have H1 := Aside0.mk (And.intro h0 (And.intro h1 hB1))
  clear hW1 h0 h1 hB1
  go_wp2_with fail
  go_loopw [7, 8] (fun m k wr => ∃ i : Nat, k = .int .i64 i ∧ i ≤ 4 ∧ m = .int .i64 (wsm o w t i : Nat) ∧ ∃ q, wr = W1.drewN q) (fun _ k _ => 4 - (intOf k).toNat)
  case atStart => exact ⟨0, rfl, by omega, rfl, 0, rfl⟩
  case round =>
    obtain ⟨i, rfl, hi, rfl, q0, hwq⟩ := hrel
    have HWQ := Aside0.mk hwq
    by_cases h4 : i < 4
    · have h4' : (i : Int) < 4 := by omega
      have hv := vat_lt i t
      have k1 : wr.cell? ⟨W.heap.size, 3 + i, none⟩ = some (.int .u8 (o i : Nat)) := by rw [hwq]; exact (blk_cell H1.out.1 _).trans (edgeO_get a b c o i h4)
      have k2 : wr.cell? ⟨W.heap.size + 1, vat i t, none⟩ = some (.int .i64 (w (vat i t) : Nat)) := by rw [hwq]; exact (blk_cell H1.out.2.1 _).trans (fourW_get w _ hv)
      have hm := wsm_le o w t ho hw i
      have hm2 : wsm o w t (i + 1) ≤ 35 := by have := wsm_le o w t ho hw (i + 1); omega
      have hVer := fun W9 => Version_any i t h4 W9
      obtain ⟨p, hp⟩ : ∃ p, o i = p := ⟨_, rfl⟩
      obtain ⟨v, hvv⟩ : ∃ v, vat i t = v := ⟨_, rfl⟩
      obtain ⟨q, hq⟩ : ∃ q, w v = q := ⟨_, rfl⟩
      obtain ⟨m, hmm⟩ : ∃ m, wsm o w t i = m := ⟨_, rfl⟩
      have hn : wsm o w t (i + 1) = m + p * q := by simp only [wsm]; rw [hvv, hp, hq, hmm]
      rw [hvv, hq] at k2
      rw [hp] at k1
      rw [hvv] at hVer hv
      rw [hn] at hm2
      rw [hmm] at hm
      have hpq : ((p : Int) * (q : Int)) = ((p * q : Nat) : Int) := by simp
      have hp1 : p ≤ 1 := by rw [← hp]; exact ho i
      have w1 : wrap64 (p : Int) = (p : Int) := wrap64_in _ (by omega) (by omega)
      have w2 : wrap64 ((p : Int) * (q : Int)) = (p : Int) * (q : Int) := by rw [hpq]; exact wrap64_in _ (by omega) (by omega)
      have w3 : wrap64 ((m : Int) + (p : Int) * (q : Int)) = (m : Int) + (p : Int) * (q : Int) := by rw [hpq]; exact wrap64_in _ (by omega) (by omega)
      have w4 : (m : Int) + (p : Int) * (q : Int) = ((m + p * q : Nat) : Int) := by simp
      rw [hmm]
      have HN := Aside0.mk hn
      have HVR := Aside0.mk hVer
      have HW4 := Aside0.mk w4
      have HV : v < 4 := hv
      clear hn hVer hp hvv hq hmm hm2 hm hp1 hwq hpq w4
      go_wp2_with fail
      go_quiet ((go_at_call 70; exact Calls.quiet_of ((HVR.out _).mono (fun e w' h => ⟨h.1, 0, h.2.symm⟩))))
      go_wp2_with fail
      refine ⟨⟨i + 1, by go_num, by omega, by rw [HN.out, ← HW4.out]; exact congrArg (Value.int IntKind.i64) w3, ⟨_, by rw [HWQ.out]; exact World.drewN_drewN _ _ _⟩⟩, by simp only [intOf]; omega⟩
    · have h4' : ¬ (i : Int) < 4 := by omega
      obtain rfl : i = 4 := by omega
      clear hwq
      go_wp2_with fail
      go_ret
      refine ⟨rfl, ?_⟩
      rw [HWQ.out]
      exact (H1.out.2.2).trans ⟨rfl, rfl, rfl, Nat.le_refl _, fun _ _ => rfl⟩
theorem edgeA_edgeO (s b : Nat) : edgeA s b 4 = edgeO (s : Int) (((s + 64 * b) / 2 : Nat) : Int) (b : Int) (ob (s + 64 * b)) := by
  have e : (s : Int) / 2 + 32 * (b : Int) = (((s + 64 * b) / 2 : Nat) : Int) := by omega
  unfold edgeA edgeO
  rw [e]
  simp
theorem Step_edge (s b : Nat) (hs : s < 64) (hb : b ≤ 1) (w : World) :
    Calls Tryd.prog 49 #[.int .i64 (s : Int), .int .u8 (b : Int)] w fun e w' => e = .returned (.agg (edgeO (s : Int) (((s + 64 * b) / 2 : Nat) : Int) (b : Int) (ob (s + 64 * b)))) ∧ Below w.heap.size w w' := by
  have h := Step_any s b hs hb w
  rw [edgeA_edgeO] at h
  exact h
theorem sum_set_lt : ∀ (l : List Nat) (i x : Nat), i < l.length → x < l.getD i 0 → (l.set i x).sum < l.sum
  | [], _, _, h, _ => by simp at h
  | a :: l, 0, x, _, hx => by
    simp only [List.getD_cons_zero] at hx
    simp only [List.set_cons_zero, List.sum_cons]
    omega
  | a :: l, i + 1, x, h, hx => by
    simp only [List.getD_cons_succ] at hx
    have := sum_set_lt l i x (by simpa using h) hx
    simp only [List.set_cons_succ, List.sum_cons]
    omega
end Go.Proofs.YticiilolmkbncaaDoor.Vit
