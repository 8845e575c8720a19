/- Contract of the document's buffer (shuttleref13: DocAdd). Each theorem says its own conditions. -/
import Derived.Test.YticiilolmkbncaaDoorWh
import Derived.BigRegion
namespace Go.Proofs.YticiilolmkbncaaDoor.Vit
open Go.RowKit Go.Proofs.YticiilolmkbncaaDoorW.PrintWords Go.Proofs.YticiilolmkbncaaDoorW.PrintLast Go.Proofs.YticiilolmkbncaaDoorW.PrintMore Go.Proofs.YticiilolmkbncaaDoor.Mem
attribute [local go_sem] max2_int min2_int max_two min_two max_three min_three max_four min_four   -- for this text's walks alone
set_option linter.unusedVariables false
set_option linter.unusedSimpArgs false

set_option maxHeartbeats 3200000 in
set_option maxRecDepth 100000 in
theorem DocAdd_any (w : World) (b sb n : Nat) (xs : List Int) (cs : Nat → Nat) (hI : IsRef w b sb n xs cs) (v : Nat) (hv : v < 4) (hcs : cs v ≤ 1000000) (p : List Nat) (A : Option Addr) (c : Nat) (hC : (Kd.int .u8).C w A (n + 6) (ints p)) (hpl : p.length = n + 6) :
    Calls Tryd.prog 40 #[.pointer (some ⟨b, 0, none⟩), .int .i64 (v : Int), .slice A (n + 6) c] w fun e w' => e = .returned (.tuple #[]) ∧ IsRef w' b sb n (addv xs v p (n + 6)) (bump cs v) ∧ Chg (fun k => k = b ∨ k = sb) w w' := by
  obtain ⟨L, hL⟩ : ∃ L, n + 6 = L := ⟨_, rfl⟩
  have hle := hI.le
  obtain ⟨pb, po, hA, hpc⟩ := row_formK hC (by omega)
  subst hA
  have hpc2 : ∀ j, j < L → w.cell? ⟨pb, po + j, none⟩ = some (.int .u8 (p.getD j 0 : Nat)) := fun j hj => by rw [← ints_getD]; exact hpc j (by omega)
  have hpb : pb ≠ sb := by
    have h0 := hpc 0 (by omega)
    intro e
    subst e
    rw [blk_cell hI.row] at h0
    by_cases hq : po + 0 < xs.length
    · rw [numA_get _ _ hq] at h0
      simp at h0
    · rw [Array.getElem?_eq_none (by rw [numA_size]; omega)] at h0
      simp at h0
  have HI := Aside0.mk (And.intro hI (And.intro hpc2 (And.intro hpb (And.intro hcs hL))))
  rw [hL]
  have hL4102 : L ≤ 4102 := by omega
  have hv4 : (v : Int) < 4 := by omega
  clear hI hcs hpl hC hpc hpc2 hpb hL hle
  go_enter Tryd.func40, Tryd.ntmps40
  go_wp2_with fail
  go_loopw [6, 7] (fun i _ wr => ∃ t : Nat, i = .int .i64 t ∧ t ≤ L ∧ wr.heap[sb]? = some (.cells (numA (addv xs v p t)) 3 (0, 0)) ∧ Chg (fun k => k = sb) w wr) (fun i _ _ => L - (intOf i).toNat)
  case atStart => exact ⟨0, rfl, Nat.zero_le _, HI.out.1.row, Chg.refl _ _⟩
  case round =>
    obtain ⟨t, rfl, ht, hrow, hchg⟩ := hrel
    have HR := Aside0.mk (And.intro hrow hchg)
    have hbk := hchg.keeps HI.out.1.blk HI.out.1.ne
    by_cases htL : t < L
    · have hlt : (t : Int) < (L : Int) := by omega
      have M1 : wr.cell? ⟨b, 1, none⟩ = some (.slice (some ⟨sb, 0, none⟩) (4 * (n + 6)) (4 * (n + 6))) := blk_cell hbk 1
      obtain ⟨K, hK⟩ : ∃ K, 4 * (n + 6) = K := ⟨_, rfl⟩
      rw [hK] at M1
      obtain ⟨s, hs⟩ : ∃ s, strm v t = s := ⟨_, rfl⟩
      obtain ⟨pl, hpl⟩ : ∃ pl, place v t = pl := ⟨_, rfl⟩
      have hs4 : s < 4 := by rw [← hs]; exact strm_lt v t
      have hplK : pl < K := by have h1 := place_lt (v := v) htL; have h2 := HI.out.2.2.2.2; omega
      have hplK2 : (pl : Int) < (K : Int) := by omega
      have hm3 : 4 * (t : Int) + (s : Int) = (pl : Int) := by rw [← hpl, ← hs]; unfold place; omega
      obtain ⟨o, ho⟩ : ∃ o, p.getD t 0 = o := ⟨_, rfl⟩
      obtain ⟨old, hold⟩ : ∃ old, (addv xs v p t).getD pl 0 = old := ⟨_, rfl⟩
      have k1 : wr.cell? ⟨pb, po + t, none⟩ = some (.int .u8 (o : Nat)) := by
        rw [← ho]
        exact (hchg.cell (p := ⟨pb, po + t, none⟩) (lies_lt (HI.out.2.1 t htL)) HI.out.2.2.1).trans (HI.out.2.1 t htL)
      have k3 : wr.cell? ⟨sb, pl, none⟩ = some (.int .i64 old) := by
        rw [blk_cell hrow, numA_get _ _ (by rw [addv_len, HI.out.1.len]; omega), hold]
      have f3 : wr.frozen? ⟨sb, pl, none⟩ = false := blk_frozen hrow pl
      have hnx : addv xs v p (t + 1) = (addv xs v p t).set pl (sadd old (sg o)) := by
        show (addv xs v p t).set (place v t) (sadd ((addv xs v p t).getD (place v t) 0) (sg (p.getD t 0))) = _
        rw [hpl, hold, ho]
      have hst := fun W => Stream10_any v t hv W
      rw [hs] at hst
      have HN := Aside0.mk (And.intro hnx hst)
      have hb1 : -9223372036854775808 ≤ 4 * (t : Int) ∧ 4 * (t : Int) ≤ 9223372036854775807 := by omega
      have hb2 : -9223372036854775808 ≤ (pl : Int) ∧ (pl : Int) ≤ 9223372036854775807 := by omega
      have hm1 : wrap64 (4 * (t : Int)) = 4 * (t : Int) := wrap64_in _ hb1.1 hb1.2
      have hm4 : wrap64 (pl : Int) = (pl : Int) := wrap64_in _ hb2.1 hb2.2
      clear hrow hchg hbk hK hpl ho hold hnx hplK hst hs hs4 hb1 hb2
      go_upto_region 4 with (go_at_call 57; refine (HN.out.2 _).mono ?_; rintro e w1 ⟨rfl, rfl⟩)
      go_region_law (first | (go_simp; go_at_call 23; refine (Of8_any o _).mono ?_; rintro e w5 ⟨rfl, rfl⟩) | (go_simp; go_at_call 60; refine (Add8_any old (sg o) _).mono ?_; rintro e w5 ⟨rfl, rfl⟩))
      all_goals clear hm1 hm4
      all_goals go_wp2_with fail
      all_goals (refine ⟨⟨t + 1, by go_num, by omega, ?_, (HR.out.2.set_ (p := ⟨sb, pl, none⟩) (fun _ => rfl) _).drew⟩, by simp only [intOf]; omega⟩)
      all_goals (rw [HN.out.1, ← numA_set]; exact blk_set HR.out.1 pl _)
    · have hlt : ¬ (t : Int) < (L : Int) := by omega
      obtain rfl : t = L := by omega
      have k1 : wr.cell? ⟨b, 2 + v, none⟩ = some (.int .i64 (cs v : Nat)) := (blk_cell hbk (2 + v)).trans (bufA_get n sb _ cs hv)
      have f1 : wr.frozen? ⟨b, 2 + v, none⟩ = false := blk_frozen hbk (2 + v)
      obtain ⟨q, hq⟩ : ∃ q, cs v = q := ⟨_, rfl⟩
      rw [hq] at k1
      have hw : IntKind.i64.wrap ((q : Int) + 1) = (q : Int) + 1 := IntWalk.i64_in _ (by have := HI.out.2.2.2.1; omega)
      have HB := Aside0.mk (And.intro hbk hq)
      clear hrow hchg hbk hq
      go_upto_region 5 with fail
      go_region_law (fail)
      go_wp2_with fail
      go_end0
      have hset := blk_set HB.out.1 (2 + v) (.int .i64 ((cs v : Nat) + 1))
      rw [bufA_bump n sb _ cs hv, HB.out.2] at hset
      have hn := HI.out.1.ne
      refine ⟨rfl, ⟨hset, blk_far HR.out.1 (p := ⟨b, 2 + v, none⟩) (fun e => hn e.symm) _, by rw [addv_len]; exact HI.out.1.len, HI.out.1.le⟩, ?_⟩
      have c1 : Chg (fun k => k = b ∨ k = sb) w wr := HR.out.2.mono (fun i hi => Or.inr hi)
      exact (c1.set_ (p := ⟨b, 2 + v, none⟩) (fun _ => Or.inl rfl) _).drew
end Go.Proofs.YticiilolmkbncaaDoor.Vit
