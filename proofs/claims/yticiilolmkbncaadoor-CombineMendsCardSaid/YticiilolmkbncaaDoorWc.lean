/- Contracts of the combiner's other methods, and of the document's helpers for it (Pick, part): each theorem says its own conditions. -/
import Derived.Test.YticiilolmkbncaaDoorWb
namespace Go.Proofs.YticiilolmkbncaaDoor.Vit
open Go.RowKit Go.Proofs.YticiilolmkbncaaDoorW.PrintWords Go.Proofs.YticiilolmkbncaaDoorW.PrintLast Go.Proofs.YticiilolmkbncaaDoorW.PrintMore Go.Proofs.YticiilolmkbncaaDoor.Mem
attribute [local go_sem] max2_int min2_int max_two min_two max_three min_three max_four min_four   -- for this text's walks alone
set_option linter.unusedVariables false
set_option linter.unusedSimpArgs false

/-- A version's bits of a code. -/
def pickl (c : List Nat) (v L : Nat) : List Nat := (List.range L).map fun t => c.getD (place v t) 0
theorem pickl_len (c : List Nat) (v L : Nat) : (pickl c v L).length = L := by simp [pickl]
theorem pickl_bits {c : List Nat} (hc : Bits c) (v L : Nat) : Bits (pickl c v L) := fun b hb => by
  obtain ⟨t, _, rfl⟩ := List.mem_map.1 hb
  rw [List.getD_eq_getElem?_getD]
  cases h : c[place v t]? with
  | none => simp
  | some x => exact hc x (List.mem_of_getElem? h)
theorem pickl_next (c : List Nat) (v L : Nat) : pickl c v (L + 1) = pickl c v L ++ [c.getD (place v L) 0] := by
  unfold pickl
  rw [List.range_succ, List.map_append]
  rfl
set_option maxHeartbeats 3200000 in
set_option maxRecDepth 100000 in
theorem Pick_any (c : List Nat) (v L K : Nat) (hv : v < 4) (hc : c.length = K) (hK : K = 4 * L) (hL : L ≤ 4102) (A : Option Addr) (d : Nat) (w : World) (hC : (Kd.int .u8).C w A K (ints c)) (hd : K ≤ d) :
    Calls Tryd.prog 29 #[.slice A K d, .int .i64 (v : Int)] w fun e w' => ∃ u, e = .returned u ∧ (Kd.int .u8).R 5 w' w.heap.size (fun k => w.heap.size ≤ k) u (ints (pickl c v L)) ∧ Below w.heap.size w w' := by
  have HC := Aside0.mk (And.intro hC (And.intro hc hK))
  have hKi : (K : Int) = 4 * (L : Int) := by omega
  have hK2 := Aside0.mk hKi
  clear hC hc hK hKi
  go_enter Tryd.func29, Tryd.ntmps29
  go_wp2_with fail
  go_loopw [5, 6] (fun o i wr => ∃ t : Nat, i = .int .i64 t ∧ t ≤ L ∧ (Kd.int .u8).R 5 wr w.heap.size (fun k => w.heap.size ≤ k) o (ints (pickl c v t)) ∧ Below w.heap.size w wr) (fun _ i _ => L - (intOf i).toNat)
  case atStart => exact ⟨0, rfl, Nat.zero_le _, Kd.R_nil _ _ _ _ _, Below.refl _ _⟩
  case round =>
    obtain ⟨t, rfl, ht, hR, hB⟩ := hrel
    have HR := Aside0.mk (And.intro hR hB)
    clear hR
    by_cases htL : t < L
    · have hlt : 4 * (t : Int) < (K : Int) := by have := hK2.out; omega
      obtain ⟨s, hs⟩ : ∃ s, strm v t = s := ⟨_, rfl⟩
      have hs4 : s < 4 := by rw [← hs]; exact strm_lt v t
      obtain ⟨pl, hpl⟩ : ∃ pl, place v t = pl := ⟨_, rfl⟩
      have hplK : pl < K := by have := place_lt (v := v) htL; have := HC.out.2.2; omega
      have hplK2 : (pl : Int) < (K : Int) := by omega
      have hm3 : 4 * (t : Int) + (s : Int) = (pl : Int) := by rw [← hpl]; unfold place; omega
      have hb1 : -9223372036854775808 ≤ (pl : Int) ∧ (pl : Int) ≤ 9223372036854775807 := by omega
      have hb2 : -9223372036854775808 ≤ 4 * (t : Int) ∧ 4 * (t : Int) ≤ 9223372036854775807 := by omega
      obtain ⟨ad, hA, hcell⟩ := Kd.at_int (Kd.C_below HC.out.1 hB) (pl : Int) (by omega) hplK2
      cases hA
      have hrd : rd (ints c) (pl : Int) = ((c.getD pl 0 : Nat) : Int) := by
        unfold rd
        rw [Int.toNat_natCast]
        exact ints_getD c pl
      rw [hrd, Int.toNat_natCast] at hcell
      obtain ⟨x, hx⟩ : ∃ x, c.getD pl 0 = x := ⟨_, rfl⟩
      rw [hx] at hcell
      have hst := fun W => Stream10_any v t hv W
      rw [hs] at hst
      have hnx := pickl_next c v t
      rw [hpl, hx] at hnx
      have HN := Aside0.mk (And.intro hnx hst)
      clear hs hs4 hpl hplK hB hrd hx hst hnx
      have hm1 : wrap64 (4 * (t : Int)) = 4 * (t : Int) := wrap64_in _ hb2.1 hb2.2
      have hm4 : wrap64 (pl : Int) = (pl : Int) := wrap64_in _ hb1.1 hb1.2
      clear hb1 hb2
      go_wp2_with (first | (go_at_call 57; refine (HN.out.2 _).mono ?_; rintro e w1 ⟨rfl, rfl⟩) | ((with_reducible refine gate_builtin (b := .append) (xs := #[.tmp 14, .tmp 24]) rfl ?_); at_builtin; refine Kd.R_append (Kd.int .u8) (w0 := w) w.heap.size rfl (.tmp 14) (.tmp 24) 25 5 (.int .u8 0) 1 rfl Tryd.underlying25 info5 rfl (by decide) (by omega) u5 (ints (pickl c v t)) (x : Int) [.int .u8 x] (fun k => w.heap.size ≤ k) (fun _ => False) rfl rfl ?aP (fun _ hk => hk.elim) ?aF ?aO ?aB ?aS ?aL ?_; (case aP => exact rfl); (case aB => exact HR.out.2); (case aF => exact (fun k hk => Nat.le_trans (below_size HR.out.2) hk)); (case aO => exact HR.out.1); (case aS => exact below_size HR.out.2); (case aL => rw [ints_len, pickl_len]; omega); intro v1 w7 ho hb hg hat; have HK := Aside0.mk (And.intro ho hb); clear ho hb hg hat))
      refine ⟨⟨t + 1, by go_num, by omega, ?_, HK.out.2⟩, by simp only [intOf]; omega⟩
      rw [HN.out.1, ints_append]
      exact HK.out.1
    · have hlt : ¬ 4 * (t : Int) < (K : Int) := by have := hK2.out; omega
      obtain rfl : t = L := by omega
      have hm1 : wrap64 (4 * (t : Int)) = 4 * (t : Int) := wrap64_in _ (by omega) (by omega)
      clear hB
      go_wp2_with fail
      go_ret
      exact ⟨_, rfl, HR.out.1, HR.out.2⟩
set_option maxRecDepth 100000 in
theorem BDecode_any (w : World) (b sb n : Nat) (xs : List Int) (cs : Nat → Nat) (hI : IsBuf w b sb n xs cs) (ht : Taps w) :
    Calls Tryd.prog 31 #[.pointer (some ⟨b, 0, none⟩)] w fun e w' => ∃ u, e = .returned (.tuple #[u, .int .i64 (decOf xs).2.2]) ∧ (Kd.int .u8).R 5 w' w.heap.size (fun _ => True) u (decOf xs).1 ∧ Below w.heap.size w w' := by
  have hd := Decode_any xs (some ⟨sb, 0, none⟩) (4 * (n + 6)) w (by rw [hI.len]; exact hI.C) (by rw [hI.len]; exact Nat.le_refl _) (by have := hI.len; have := hI.le; omega) ht
  rw [hI.len] at hd
  have M1 : w.cell? ⟨b, 1, none⟩ = some (.slice (some ⟨sb, 0, none⟩) (4 * (n + 6)) (4 * (n + 6))) := blk_cell hI.blk 1
  obtain ⟨K, hK⟩ : ∃ K, 4 * (n + 6) = K := ⟨_, rfl⟩
  rw [hK] at M1 hd
  obtain ⟨D, hD⟩ : ∃ D, decOf xs = D := ⟨_, rfl⟩
  rw [hD] at hd ⊢
  have HD := Aside0.mk hd
  clear hI hd hK hD
  go_enter Tryd.func31, Tryd.ntmps31
  go_wp2_with (go_at_call 14; refine HD.out.mono ?_; rintro e w1 ⟨u, rfl, hR, hB⟩; have H1 := Aside0.mk (And.intro hR hB); clear hR hB)
  go_ret2
  exact ⟨u, rfl, H1.out.1, H1.out.2⟩
theorem BBits_any (w : World) (b sb n : Nat) (xs : List Int) (cs : Nat → Nat) (hI : IsBuf w b sb n xs cs) :
    Calls Tryd.prog 37 #[.pointer (some ⟨b, 0, none⟩)] w fun e w' => e = .returned (.int .i64 (n : Int)) ∧ w = w' := by
  have M0 : w.cell? ⟨b, 0, none⟩ = some (.int .i64 (n : Int)) := blk_cell hI.blk 0
  clear hI
  go_enter Tryd.func37, Tryd.ntmps37
  go_wp2_with fail
  go_ret
  exact ⟨rfl, rfl⟩
theorem BCounts_any (w : World) (b sb n : Nat) (xs : List Int) (cs : Nat → Nat) (hI : IsBuf w b sb n xs cs) :
    Calls Tryd.prog 35 #[.pointer (some ⟨b, 0, none⟩)] w fun e w' => e = .returned (.agg #[.int .i64 (cs 0 : Nat), .int .i64 (cs 1 : Nat), .int .i64 (cs 2 : Nat), .int .i64 (cs 3 : Nat)]) ∧ Below w.heap.size w w' := by
  have hb := blk_lt hI.blk
  have M2 : w.cell? ⟨b, 2, none⟩ = some (.int .i64 (cs 0 : Nat)) := blk_cell hI.blk 2
  have M3 : w.cell? ⟨b, 3, none⟩ = some (.int .i64 (cs 1 : Nat)) := blk_cell hI.blk 3
  have M4 : w.cell? ⟨b, 4, none⟩ = some (.int .i64 (cs 2 : Nat)) := blk_cell hI.blk 4
  have M5 : w.cell? ⟨b, 5, none⟩ = some (.int .i64 (cs 3 : Nat)) := blk_cell hI.blk 5
  obtain ⟨c0, h0⟩ : ∃ c0, cs 0 = c0 := ⟨_, rfl⟩
  obtain ⟨c1, h1⟩ : ∃ c1, cs 1 = c1 := ⟨_, rfl⟩
  obtain ⟨c2, h2⟩ : ∃ c2, cs 2 = c2 := ⟨_, rfl⟩
  obtain ⟨c3, h3⟩ : ∃ c3, cs 3 = c3 := ⟨_, rfl⟩
  rw [h0] at M2
  rw [h1] at M3
  rw [h2] at M4
  rw [h3] at M5
  rw [h0, h1, h2, h3]
  clear hI h0 h1 h2 h3
  go_enter Tryd.func35, Tryd.ntmps35
  go_wp2_with fail
  exact bodyPost_ret (v := .agg #[.int .i64 (c0 : Int), .int .i64 (c1 : Int), .int .i64 (c2 : Int), .int .i64 (c3 : Int)]) (by simp [results, Tryd.results35, go_sem]) rfl ⟨rfl, below_alloc (Below.refl _ _) _⟩
set_option maxRecDepth 100000 in
theorem Clone_any (xs : List Int) (b L : Nat) (w : World) (hC : (Kd.int .i64).C w (some ⟨b, 0, none⟩) L xs) (hL : L ≤ 17000) :
    Calls Tryd.prog 59 #[.slice (some ⟨b, 0, none⟩) L L] w fun e w' => ∃ u, e = .returned u ∧ (Kd.int .i64).R 3 w' w.heap.size (fun k => w.heap.size ≤ k) u xs ∧ Below w.heap.size w w' := by
  have HC := Aside0.mk hC
  have he : ∀ W : World, (binOp .eql 22 (.slice (some ⟨b, 0, none⟩) L L) (.slice none 0 0)).run Tryd.prog W = .ok (.bool false) W := fun _ => rfl
  clear hC
  go_enter Tryd.func59, Tryd.ntmps59
  go_wp2_with (at_builtin; refine Kd.R_append_rows (Kd.int .i64) (w0 := w) w.heap.size rfl _ _ _ _ (.int .i64 0) 8 rfl Tryd.underlying22 info3 rfl (by decide) (by decide) (.slice (some ⟨w.heap.size, 0, none⟩) 0 0) [] xs (some ⟨b, 0, none⟩) L L (fun k => w.heap.size ≤ k) (fun _ => False) rfl rfl (Kd.R_of_own (World.ownsRow_made w #[] 0 (Nat.le_refl _) (Nat.zero_le _) rfl) (fun k hk => by simp [Value.ownBlock] at hk; omega)) (Kd.C_below HC.out (below_alloc (Below.refl _ _) _)) (fun x cs h => h) (fun _ hk => hk.elim) (fun k hk => by simp at hk; omega) (below_alloc (Below.refl _ _) _) (by simp) (by simp; omega) ?_; intro v1 w1 hR1 hB1 hG1 hat1; have H1 := Aside0.mk (And.intro hR1 hB1); clear hR1 hB1 hG1 hat1)
  go_ret
  exact ⟨_, rfl, by have h := H1.out.1; rw [List.nil_append] at h; exact h, H1.out.2⟩
set_option maxRecDepth 100000 in
theorem BSoft_any (w : World) (b sb n : Nat) (xs : List Int) (cs : Nat → Nat) (hI : IsBuf w b sb n xs cs) :
    Calls Tryd.prog 34 #[.pointer (some ⟨b, 0, none⟩)] w fun e w' => ∃ u, e = .returned u ∧ (Kd.int .i64).R 3 w' w.heap.size (fun k => w.heap.size ≤ k) u xs ∧ Below w.heap.size w w' := by
  have M1 : w.cell? ⟨b, 1, none⟩ = some (.slice (some ⟨sb, 0, none⟩) (4 * (n + 6)) (4 * (n + 6))) := blk_cell hI.blk 1
  have hc := Clone_any xs sb (4 * (n + 6)) w hI.C (by have := hI.le; omega)
  obtain ⟨K, hK⟩ : ∃ K, 4 * (n + 6) = K := ⟨_, rfl⟩
  rw [hK] at M1 hc
  have HC := Aside0.mk hc
  clear hI hK hc
  go_enter Tryd.func34, Tryd.ntmps34
  go_wp2_with (go_at_call 59; refine HC.out.mono ?_; rintro e w1 ⟨u, rfl, hR, hB⟩; have H1 := Aside0.mk (And.intro hR hB); clear hR hB)
  go_ret
  exact ⟨u, rfl, H1.out.1, H1.out.2⟩
/-- What came: a Reset, a version, turned places, raw bits. -/
abbrev DC : Kd (Bool × Int × List Int × List Int) := Kd.pair Kd.bool (Kd.pair (Kd.int .i64) (Kd.pair (Kd.slice 3 (Kd.int .i64)) (Kd.slice 5 (Kd.int .u8))))
/-- Element i of what came. -/
theorem came_at {w : World} {A : Option Addr} {n : Nat} {row : List (Bool × Int × List Int × List Int)} (h : DC.C w A n row) (i : Nat) (hi : i < n) :
    ∃ (ad : Addr) (r : Bool) (vv : Int) (at_ raw : List Int) (Aa : Option Addr) (ca : Nat) (Ar : Option Addr) (cr : Nat), A = some ad ∧ row.getD i (false, 0, [], []) = (r, vv, at_, raw) ∧ at_.length ≤ ca ∧ (Kd.int .i64).C w Aa at_.length at_ ∧ raw.length ≤ cr ∧ (Kd.int .u8).C w Ar raw.length raw ∧
      w.cell? (ad.add (i * 4)) = some (.bool r) ∧ w.cell? ⟨(ad.add (i * 4)).block, (ad.add (i * 4)).off + 1, none⟩ = some (.int .i64 vv) ∧
      w.cell? ⟨(ad.add (i * 4)).block, (ad.add (i * 4)).off + 2, none⟩ = some (.slice Aa at_.length ca) ∧ w.cell? ⟨(ad.add (i * 4)).block, (ad.add (i * 4)).off + 3, none⟩ = some (.slice Ar raw.length cr) := by
  obtain ⟨ad, c, hA, hcl, hK, hcell⟩ := Kd.C_get h (false, 0, [], []) (i : Int) (by omega) (by omega)
  rw [Int.toNat_natCast] at hK hcell
  obtain ⟨⟨r, vv, at_, raw⟩, hrow⟩ : ∃ q, row.getD i (false, 0, [], []) = q := ⟨_, rfl⟩
  rw [hrow] at hK
  obtain ⟨c0, c1, rfl, h0, c2, c3, rfl, h2, c4, c5, rfl, h4, h5⟩ := hK
  obtain ⟨Aa, ca, rfl, hle, hC⟩ := h4
  obtain ⟨Ar, cr, rfl, hle2, hC2⟩ := h5
  have h0' : c0 = [.bool r] := h0
  have h2' : c2 = [.int .i64 vv] := h2
  subst h0' h2'
  have hsz : DC.sz = 4 := rfl
  rw [hsz] at hcell
  have e0 := hcell 0 _ rfl
  have e1 := hcell 1 _ rfl
  have e2 := hcell 2 _ rfl
  have e3 := hcell 3 _ rfl
  rw [add_field _ _ 1 (by omega)] at e1
  rw [add_field _ _ 2 (by omega)] at e2
  rw [add_field _ _ 3 (by omega)] at e3
  exact ⟨ad, r, vv, at_, raw, Aa, ca, Ar, cr, hA, hrow, hle, hC, hle2, hC2, by simpa using e0, by simpa using e1, by simpa using e2, by simpa using e3⟩
end Go.Proofs.YticiilolmkbncaaDoor.Vit
