/- Contracts of the laws' own helper (decodes), and what the decoder tells of codes: each theorem says its own conditions. -/
import Derived.Test.YticiilolmkbncaaDoorVn
namespace Go.Proofs.YticiilolmkbncaaDoor.Vit
open Go.RowKit Go.Proofs.YticiilolmkbncaaDoorW.PrintWords Go.Proofs.YticiilolmkbncaaDoorW.PrintLast Go.Proofs.YticiilolmkbncaaDoorW.PrintMore Go.Proofs.YticiilolmkbncaaDoor.Mem
attribute [local go_sem] max2_int min2_int max_two min_two max_three min_three max_four min_four   -- for this text's walks alone
set_option linter.unusedVariables false
set_option linter.unusedSimpArgs false

theorem clip_sg (o : Nat) : clip (sg o) = sg o := by
  unfold sg clip
  split <;> rfl
theorem clip_ok {x : Int} (h : -31 ≤ x ∧ x ≤ 31) : clip x = x := by unfold clip; omega
/-- What the decoder tells of numbers within the bounds. -/
theorem decOf_is {xs : List Int} {n : Nat} (hl : xs.length = 4 * (n + 6)) (hn : n ≤ 4096) (hb : ∀ x ∈ xs, -31 ≤ x ∧ x ≤ 31) :
    decOf xs = (ints (bw (fun j => xs.getD j 0) n (n + 6) n 0 0), cv (fun j => xs.getD j 0) n (n + 6) 0 0, 0) := by
  unfold decOf
  rw [if_neg (by omega), if_neg (fun ⟨x, hx, hne⟩ => hne (clip_ok (hb x hx)).symm), hl, show 4 * (n + 6) / 4 = n + 6 by omega, show n + 6 - 6 = n by omega, way_is]
  rfl
/-- What the decoder tells of a code of which fewer than six bits are turned. -/
theorem decOf_mends {l t : List Nat} (hn : l.length ≤ 4096) (hb : Bits l) (ht : Bits t) (htl : t.length = 4 * (l.length + 6)) (hd : apart t (code l) < 6) :
    decOf (t.map sg) = (ints l, (4 * (l.length + 6) : Nat) - 2 * (apart t (code l) : Int), 0) := by
  rw [decOf_is (n := l.length) (by rw [List.length_map, htl]) hn (fun x hx => by
    obtain ⟨c, _, rfl⟩ := List.mem_map.1 hx
    unfold sg
    split <;> decide)]
  obtain ⟨h1, h2⟩ := best_mends (f := fun j => (t.map sg).getD j 0) hn l t rfl hb ht htl hd (fun _ => rfl)
  rw [h1, h2]
  rfl
theorem Of8_any (o : Nat) (w : World) : Calls Tryd.prog 23 #[.int .u8 (o : Int)] w fun e w' => e = .returned (.int .i64 (sg o)) ∧ w = w' := by
  by_cases h : o = 0
  · subst h
    go_enter Tryd.func23, Tryd.ntmps23
    go_wp2_with fail
    go_ret
    exact ⟨rfl, rfl⟩
  · have hz : (((o : Int)) == 0) = false := by simpa using h
    have hs : sg o = -1 := if_neg h
    rw [hs]
    go_enter Tryd.func23, Tryd.ntmps23
    go_wp2_with fail
    go_ret
    exact ⟨rfl, rfl⟩
/-- A block's numbers, read as a row. -/
theorem C_block {k : IntKind} {W : World} {b t : Nat} (xs : List Int) (hl : xs.length ≤ 9223372036854775807) (h : W.heap[b]? = some (.cells (xs.map (Value.int k)).toArray t (0, 0))) : (Kd.int k).C W (some ⟨b, 0, none⟩) xs.length xs := by
  refine ⟨rfl, hl, fun _ => ⟨_, rfl, fun j p hj => ⟨[.int k p], rfl, rfl, fun i u hu => ?_⟩⟩⟩
  match i, hu with
  | 0, hu =>
    obtain rfl : Value.int k p = u := by simpa using hu
    have e : (⟨b, 0, none⟩ : Addr).add (j * (Kd.int k).sz + 0) = ⟨b, j, none⟩ := by
      show (⟨b, 0, none⟩ : Addr).add (j * 1 + 0) = _
      unfold Addr.add
      split <;> simp_all
    rw [e, blk_cell h]
    simp [hj]
  | i + 1, hu => simp at hu
theorem info3 : (Tryd.prog.info? 3).map (fun i => (i.zero, i.size, i.bytes)) = some (some (.int .i64 0), 1, 8) := by kernel_rfl
set_option maxHeartbeats 3200000 in
set_option maxRecDepth 100000 in
theorem decodes_any (w : World) (ht : Taps w) : Calls Tryd.prog 16 #[] w fun e w' => e = .returned (.bool true) ∧ Below w.heap.size w w' := by
  have HT := Aside0.mk ht
  clear ht
  go_enter Tryd.func16, Tryd.ntmps16
  go_wp2_with fail
  have hb4 : Bits [1, 0, 1, 1] := by unfold Bits; decide
  have hC4 := C_block (k := .u8) (W := w.alloc (.cells #[.int .u8 1, .int .u8 0, .int .u8 1, .int .u8 1] 5)) (ints [1, 0, 1, 1]) (by decide) (heap_alloc_new w _)
  refine (Code_any [1, 0, 1, 1] hb4 _ _ _ hC4 (Nat.le_refl _) (by decide)).mono ?_
  rintro e w1 ⟨v, rfl, hR1, hB1⟩
  obtain ⟨A1, c1, rfl, hc1, hCv⟩ := Kd.R_reads hR1
  obtain ⟨K4, hK⟩ : ∃ K4, code [1, 0, 1, 1] = K4 := ⟨_, rfl⟩
  have hK40 : K4.length = 40 := by rw [← hK, code_len]; rfl
  have hKb : Bits K4 := by rw [← hK]; exact code_bits _
  rw [hK] at hCv hc1
  rw [hK]
  have hi40 : (ints K4).length = 40 := by rw [ints_len]; exact hK40
  rw [hi40] at hCv hc1
  rw [hi40]
  have HB1 := Aside0.mk ((below_alloc (Below.refl w.heap.size w) _).trans (hB1.mono (by simp)))
  have HK := Aside0.mk (And.intro hK (And.intro hKb (And.intro hK40 hCv)))
  clear hK hKb hCv hB1 hR1 hC4 hb4 hK40 hi40
  go_wp2_with fail
  go_loopw [1, 3] (fun o s wr => ∃ t : Nat, s = .int .i64 t ∧ t ≤ 40 ∧ (Kd.int .i64).R 3 wr w1.heap.size (fun _ => True) o ((K4.take t).map sg) ∧ Below w1.heap.size w1 wr) (fun _ s _ => 40 - (intOf s).toNat)
  case atStart => exact ⟨0, rfl, by omega, Kd.R_nil _ _ _ _ _, Below.refl _ _⟩
  case round =>
    obtain ⟨t, rfl, ht, hR, hB⟩ := hrel
    have HR := Aside0.mk (And.intro hR hB)
    by_cases hlt : t < 40
    · have hlt' : (t : Int) < 40 := by omega
      obtain ⟨ad, hA, hcell⟩ := Kd.at_int (Kd.C_below HK.out.2.2.2 hB) (t : Int) (by omega) (by omega)
      cases hA
      have htl : t < K4.length := by have := HK.out.2.2.1; omega
      have hrd : rd (ints K4) (t : Int) = ((K4[t] : Nat) : Int) := by simp [rd, ints, List.getD_eq_getElem?_getD, List.getElem?_eq_getElem htl]
      have htk : (K4.take (t + 1)).map sg = (K4.take t).map sg ++ [sg K4[t]] := by rw [List.take_add_one, List.getElem?_eq_getElem htl, List.map_append]; rfl
      obtain ⟨x, hx⟩ : ∃ x, K4[t] = x := ⟨_, rfl⟩
      rw [hx] at hrd htk
      rw [hrd, Int.toNat_natCast] at hcell
      have HTK := Aside0.mk htk
      clear hR hB hrd hx htk
      go_wp2_with (first | (go_at_call 23; refine (Of8_any x _).mono ?_; rintro e w5 ⟨rfl, rfl⟩) | ((with_reducible refine gate_builtin (b := .append) (xs := #[.tmp 15, .tmp 21]) rfl ?_); at_builtin; refine Kd.R_append (Kd.int .i64) (w0 := w1) w1.heap.size rfl (.tmp 15) (.tmp 21) 22 3 (.int .i64 0) 8 rfl Tryd.underlying22 info3 rfl (by decide) (by omega) u1 ((K4.take t).map sg) (sg x) [.int .i64 (sg x)] (fun _ => True) (fun _ => False) rfl rfl ?aP (fun _ hk => hk.elim) ?aF ?aO ?aB ?aS ?aL ?_; (case aP => exact rfl); (case aB => exact HR.out.2); (case aF => exact (fun _ _ => trivial)); (case aO => exact HR.out.1); (case aS => exact below_size HR.out.2); (case aL => simp; omega); intro v1 w7 ho hb hg hat; have HN := Aside0.mk (And.intro ho (And.intro hb hg)); clear ho hb hg hat))
      refine ⟨⟨t + 1, by go_num, by omega, ?_, HN.out.2.1⟩, by simp only [intOf]; omega⟩
      rw [HTK.out]
      exact HN.out.1
    · have hlt' : ¬ (t : Int) < 40 := by omega
      obtain rfl : t = 40 := by omega
      clear hR
      have hR40 := HR.out.1
      rw [show K4.take 40 = K4 by rw [List.take_of_length_le (by have := HK.out.2.2.1; omega)]] at hR40
      obtain ⟨A2, c2, rfl, hc2, hC2⟩ := Kd.R_reads hR40
      have hlen : (K4.map sg).length = 40 := by rw [List.length_map]; exact HK.out.2.2.1
      have hdec := Decode_any (K4.map sg) A2 c2 wr hC2 hc2 (by omega) (HT.out.below (HB1.out.trans (HR.out.2.mono HB1.out.size)))
      have hD : decOf (K4.map sg) = (ints [1, 0, 1, 1], 40, 0) := by
        rw [decOf_mends (l := [1, 0, 1, 1]) (t := K4) (by decide) (by unfold Bits; decide) HK.out.2.1 (by rw [HK.out.2.2.1]; rfl) (by rw [HK.out.1, apart_self]; decide), HK.out.1, apart_self]
        rfl
      rw [hD, hlen] at hdec
      rw [hlen]
      have HDEC := Aside0.mk hdec
      clear hR40 hc2 hC2 hlen hdec hD hB
      go_wp2_with fail
      refine HDEC.out.mono ?_
      rintro e w8 ⟨v8, rfl, hR8, hB8⟩
      obtain ⟨A8, c8, e8, hc8, hC8⟩ := Kd.R_reads hR8
      have h4 : (ints [1, 0, 1, 1]).length = 4 := rfl
      rw [h4] at e8 hc8 hC8
      subst e8
      clear h4
      have hcs : ∀ m, (convert 25 9 (.slice A8 4 c8)).run Tryd.prog (w8.drewN m) = .ok (.string (strOfNums [1, 0, 1, 1])) (w8.drewN m) := fun m => Kd.C_string Tryd.underlying25 Tryd.underlying5 Tryd.underlying9 (Kd.C_below hC8 (pw_below_drewN (Below.refl _ _) m))
      have hcs0 : (convert 25 9 (.slice A8 4 c8)).run Tryd.prog w8 = .ok (.string (strOfNums [1, 0, 1, 1])) w8 := hcs 0
      have hs97 : strOfNums [1, 0, 1, 1] = ⟨#[1, 0, 1, 1]⟩ := by kernel_rfl
      rw [hs97] at hcs hcs0
      have HB8 := Aside0.mk ((HB1.out.trans (HR.out.2.mono HB1.out.size)).trans (hB8.mono (HB1.out.trans (HR.out.2.mono HB1.out.size)).size))
      clear hR8 hB8 hc8 hC8 hs97
      go_wp2_with fail
      go_ret
      exact ⟨rfl, HB8.out⟩
end Go.Proofs.YticiilolmkbncaaDoor.Vit
