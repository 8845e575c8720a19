/- Contracts of the document's helpers (Few, Score, Apart): each theorem says its own conditions. -/
import Derived.Test.YticiilolmkbncaaDoorVo
namespace Go.Proofs.YticiilolmkbncaaDoor.Vit
open Go.RowKit Go.Proofs.YticiilolmkbncaaDoorW.PrintWords Go.Proofs.YticiilolmkbncaaDoorW.PrintLast Go.Proofs.YticiilolmkbncaaDoorW.PrintMore Go.Proofs.YticiilolmkbncaaDoor.Mem
attribute [local go_sem] max2_int min2_int max_two min_two max_three min_three max_four min_four   -- for this text's walks alone
set_option linter.unusedVariables false
set_option linter.unusedSimpArgs false

/-- Some bits of a slice. -/
def few1 (xs : List Int) (n : Nat) : List Nat := (xs.take n).map fun x => x.toNat % 2
theorem few1_bits (xs : List Int) (n : Nat) : Bits (few1 xs n) := fun b hb => by
  obtain ⟨x, _, rfl⟩ := List.mem_map.1 hb
  omega
theorem few1_len (xs : List Int) (n : Nat) : (few1 xs n).length = min n xs.length := by simp [few1]
theorem rd_at {xs : List Int} {t : Nat} (h : t < xs.length) : rd xs (t : Int) = xs[t] := by simp [rd, List.getD_eq_getElem?_getD, List.getElem?_eq_getElem h]

set_option maxHeartbeats 3200000 in
set_option maxRecDepth 100000 in
theorem Few1_any (xs : List Int) (hx : ∀ x ∈ xs, 0 ≤ x) (A : Option Addr) (L c n : Nat) (w : World) (hC : (Kd.int .u8).C w A L xs) (hc : L ≤ c) (hl : L ≤ 140737488355327) (hn : n ≤ 1099511627776) :
    Calls Tryd.prog 21 #[.slice A L c, .int .i64 (n : Int)] w fun e w' =>
      ∃ v, e = .returned v ∧ (Kd.int .u8).R 5 w' w.heap.size (fun _ => True) v (ints (few1 xs n)) ∧ Below w.heap.size w w' := by
  have HC := Aside0.mk (And.intro hC hx)
  have hL : xs.length = L := Kd.C_len hC
  have HL := Aside0.mk hL
  clear hC hx hL
  go_enter Tryd.func21, Tryd.ntmps21
  go_wp2_with fail
  go_loopw [5, 6] (fun o s wr => ∃ t : Nat, s = .int .i64 t ∧ t ≤ L ∧ t ≤ n ∧ (Kd.int .u8).R 5 wr w.heap.size (fun _ => True) o (ints (few1 xs t)) ∧ Below w.heap.size w wr) (fun _ s _ => n - (intOf s).toNat)
  case atStart => exact ⟨0, rfl, by omega, by omega, Kd.R_nil _ _ _ _ _, Below.refl _ _⟩
  case round =>
    obtain ⟨t, rfl, ht, htn, hR, hB⟩ := hrel
    have HR := Aside0.mk (And.intro hR hB)
    by_cases h1 : t < L
    · have h1' : (t : Int) < (L : Int) := by omega
      by_cases h2 : t < n
      · have h2' : (t : Int) < (n : Int) := by omega
        obtain ⟨ad, hA, hcell⟩ := Kd.at_int (Kd.C_below HC.out.1 hB) (t : Int) (by omega) h1'
        cases hA
        have htl : t < xs.length := by have := HL.out; omega
        have hx0 := HC.out.2 _ (List.getElem_mem htl)
        have htk : ints (few1 xs (t + 1)) = ints (few1 xs t) ++ [(xs[t]).tmod 2] := by
          unfold ints few1
          rw [List.take_add_one, List.getElem?_eq_getElem htl, List.map_append, List.map_append]
          congr 1
          show [((xs[t].toNat % 2 : Nat) : Int)] = _
          rw [Int.tmod_eq_emod_of_nonneg hx0]
          congr 1
          omega
        rw [rd_at htl, Int.toNat_natCast] at hcell
        have h01 : 0 ≤ (xs[t]).tmod 2 ∧ (xs[t]).tmod 2 < 256 := by rw [Int.tmod_eq_emod_of_nonneg hx0]; omega
        have hlen : (ints (few1 xs t)).length ≤ t := by rw [ints_len, few1_len]; omega
        obtain ⟨x, hxx⟩ : ∃ x, xs[t] = x := ⟨_, rfl⟩
        rw [hxx] at hcell htk h01
        obtain ⟨y, hy⟩ : ∃ y, x.tmod 2 = y := ⟨_, rfl⟩
        rw [hy] at htk h01
        have hw8 : IntKind.u8.wrap y = y := by rw [IntKind.wrap_u8]; omega
        have HTK := Aside0.mk (And.intro htk hlen)
        clear hR hB htk hxx hx0 hlen
        go_wp2_with (first | ((with_reducible refine gate_builtin (b := .append) (xs := #[.tmp 18, .tmp 24]) rfl ?_); at_builtin; refine Kd.R_append (Kd.int .u8) (w0 := w) w.heap.size rfl (.tmp 18) (.tmp 24) 25 5 (.int .u8 0) 1 rfl Tryd.underlying25 info5 rfl (by decide) (by omega) u5 (ints (few1 xs t)) y [.int .u8 y] (fun _ => True) (fun _ => False) rfl rfl ?aP (fun _ hk => hk.elim) ?aF ?aO ?aB ?aS ?aL ?_; (case aP => exact rfl); (case aB => exact HR.out.2); (case aF => exact (fun _ _ => trivial)); (case aO => exact HR.out.1); (case aS => exact below_size HR.out.2); (case aL => have := HTK.out.2; omega); intro v1 w7 ho hb hg hat; have HN := Aside0.mk (And.intro ho hb); clear ho hb hg hat))
        refine ⟨⟨t + 1, by go_num, by omega, by omega, ?_, HN.out.2⟩, by simp only [intOf]; omega⟩
        rw [HTK.out.1]
        exact HN.out.1
      · have h2' : ¬ (t : Int) < (n : Int) := by omega
        obtain rfl : t = n := by omega
        go_wp2_with fail
        go_ret
        exact ⟨_, rfl, HR.out.1, HR.out.2⟩
    · have h1' : ¬ (t : Int) < (L : Int) := by omega
      obtain rfl : t = L := by omega
      have e : few1 xs n = few1 xs t := by
        unfold few1
        rw [List.take_of_length_le (by have := HL.out; omega), List.take_of_length_le (by have := HL.out; omega)]
      have HE := Aside0.mk e
      clear e hR hB
      go_wp2_with fail
      all_goals go_ret
      all_goals (refine ⟨_, rfl, ?_, HR.out.2⟩)
      all_goals (rw [HE.out]; exact HR.out.1)
/-- Some numbers of a slice. -/
def few8 (xs : List Int) (n : Nat) : List Int := (xs.take n).map fun x => x.tmod 32
theorem few8_in {xs : List Int} {n : Nat} {x : Int} (h : x ∈ few8 xs n) : -31 ≤ x ∧ x ≤ 31 := by
  obtain ⟨y, _, rfl⟩ := List.mem_map.1 h
  have h1 := Int.lt_tmod_of_pos y (show (0 : Int) < 32 by decide)
  have h2 := Int.tmod_lt_of_pos y (show (0 : Int) < 32 by decide)
  omega
theorem few8_len (xs : List Int) (n : Nat) : (few8 xs n).length = min n xs.length := by simp [few8]

set_option maxHeartbeats 3200000 in
set_option maxRecDepth 100000 in
theorem Few8_any (xs : List Int) (A : Option Addr) (L c n : Nat) (w : World) (hC : (Kd.int .i64).C w A L xs) (hc : L ≤ c) (hl : L ≤ 140737488355327) (hn : n ≤ 1099511627776) :
    Calls Tryd.prog 13 #[.slice A L c, .int .i64 (n : Int)] w fun e w' =>
      ∃ v, e = .returned v ∧ (Kd.int .i64).R 3 w' w.heap.size (fun _ => True) v (few8 xs n) ∧ Below w.heap.size w w' := by
  have HC := Aside0.mk (And.intro hC hC)
  have hL : xs.length = L := Kd.C_len hC
  have HL := Aside0.mk hL
  clear hC hL
  go_enter Tryd.func13, Tryd.ntmps13
  go_wp2_with fail
  go_loopw [5, 6] (fun o s wr => ∃ t : Nat, s = .int .i64 t ∧ t ≤ L ∧ t ≤ n ∧ (Kd.int .i64).R 3 wr w.heap.size (fun _ => True) o (few8 xs t) ∧ Below w.heap.size w wr) (fun _ s _ => n - (intOf s).toNat)
  case atStart => exact ⟨0, rfl, by omega, by omega, Kd.R_nil _ _ _ _ _, Below.refl _ _⟩
  case round =>
    obtain ⟨t, rfl, ht, htn, hR, hB⟩ := hrel
    have HR := Aside0.mk (And.intro hR hB)
    by_cases h1 : t < L
    · have h1' : (t : Int) < (L : Int) := by omega
      by_cases h2 : t < n
      · have h2' : (t : Int) < (n : Int) := by omega
        obtain ⟨ad, hA, hcell⟩ := Kd.at_int (Kd.C_below HC.out.1 hB) (t : Int) (by omega) h1'
        cases hA
        have htl : t < xs.length := by have := HL.out; omega
        have htk : few8 xs (t + 1) = few8 xs t ++ [(xs[t]).tmod 32] := by
          unfold few8
          rw [List.take_add_one, List.getElem?_eq_getElem htl, List.map_append]
          rfl
        rw [rd_at htl, Int.toNat_natCast] at hcell
        have hlen : (few8 xs t).length ≤ t := by simp [few8]; omega
        obtain ⟨x, hxx⟩ : ∃ x, xs[t] = x := ⟨_, rfl⟩
        rw [hxx] at hcell htk
        obtain ⟨y, hy⟩ : ∃ y, x.tmod 32 = y := ⟨_, rfl⟩
        rw [hy] at htk
        have hyr : -32 < y ∧ y < 32 := by
          have h1 := Int.lt_tmod_of_pos x (show (0 : Int) < 32 by decide)
          have h2 := Int.tmod_lt_of_pos x (show (0 : Int) < 32 by decide)
          omega
        have hw8 : wrap64 y = y := by unfold wrap64; omega
        have HTK := Aside0.mk (And.intro htk hlen)
        clear hR hB htk hxx hlen hyr
        go_wp2_with (first | ((with_reducible refine gate_builtin (b := .append) (xs := #[.tmp 18, .tmp 24]) rfl ?_); at_builtin; refine Kd.R_append (Kd.int .i64) (w0 := w) w.heap.size rfl (.tmp 18) (.tmp 24) 22 3 (.int .i64 0) 8 rfl Tryd.underlying22 info3 rfl (by decide) (by omega) u5 (few8 xs t) y [.int .i64 y] (fun _ => True) (fun _ => False) rfl rfl ?aP (fun _ hk => hk.elim) ?aF ?aO ?aB ?aS ?aL ?_; (case aP => exact rfl); (case aB => exact HR.out.2); (case aF => exact (fun _ _ => trivial)); (case aO => exact HR.out.1); (case aS => exact below_size HR.out.2); (case aL => have := HTK.out.2; omega); intro v1 w7 ho hb hg hat; have HN := Aside0.mk (And.intro ho hb); clear ho hb hg hat))
        refine ⟨⟨t + 1, by go_num, by omega, by omega, ?_, HN.out.2⟩, by simp only [intOf]; omega⟩
        rw [HTK.out.1]
        exact HN.out.1
      · have h2' : ¬ (t : Int) < (n : Int) := by omega
        obtain rfl : t = n := by omega
        go_wp2_with fail
        go_ret
        exact ⟨_, rfl, HR.out.1, HR.out.2⟩
    · have h1' : ¬ (t : Int) < (L : Int) := by omega
      obtain rfl : t = L := by omega
      have e : few8 xs n = few8 xs t := by
        unfold few8
        rw [List.take_of_length_le (by have := HL.out; omega), List.take_of_length_le (by have := HL.out; omega)]
      have HE := Aside0.mk e
      clear e hR hB
      go_wp2_with fail
      all_goals go_ret
      all_goals (refine ⟨_, rfl, ?_, HR.out.2⟩)
      all_goals (rw [HE.out]; exact HR.out.1)
/-- What the first numbers score. -/
def scn (xs : List Int) (cs : List Nat) : Nat → Int
  | 0 => 0
  | t + 1 => scn xs cs t + xs.getD t 0 * sg (cs.getD t 0)
theorem scn_cons (x : Int) (c : Nat) (xs : List Int) (cs : List Nat) : ∀ t, scn (x :: xs) (c :: cs) (t + 1) = x * sg c + scn xs cs t
  | 0 => by simp [scn]
  | t + 1 => by
    rw [scn, scn_cons x c xs cs t]
    simp only [scn, List.getD_cons_succ]
    omega
theorem scn_sc : ∀ (xs : List Int) (cs : List Nat), xs.length = cs.length → scn xs cs xs.length = sc xs cs
  | [], [], _ => rfl
  | [], _ :: _, h => by simp at h
  | _ :: _, [], h => by simp at h
  | x :: xs, c :: cs, h => by
    rw [List.length_cons, scn_cons, scn_sc xs cs (by simpa using h)]
    rfl
theorem scn_in {xs : List Int} (hb : ∀ x ∈ xs, -1000 ≤ x ∧ x ≤ 1000) (cs : List Nat) : ∀ t : Nat, -(1000 * (t : Int)) ≤ scn xs cs t ∧ scn xs cs t ≤ 1000 * (t : Int)
  | 0 => by simp [scn]
  | t + 1 => by
    have ih := scn_in hb cs t
    have hx : -1000 ≤ xs.getD t 0 ∧ xs.getD t 0 ≤ 1000 := by
      rw [List.getD_eq_getElem?_getD]
      by_cases h : t < xs.length
      · rw [List.getElem?_eq_getElem h]
        exact hb _ (List.getElem_mem h)
      · rw [List.getElem?_eq_none (by omega)]
        exact ⟨by decide, by decide⟩
    have := sg_mul (xs.getD t 0) (cs.getD t 0) hx.1 hx.2
    rw [scn]
    push_cast
    omega

set_option maxHeartbeats 3200000 in
set_option maxRecDepth 100000 in
theorem Score_any (xs : List Int) (cs : List Nat) (hb : ∀ x ∈ xs, -1000 ≤ x ∧ x ≤ 1000) (A B : Option Addr) (c d L : Nat) (w : World) (hL : xs.length = L) (hcs : cs.length = L) (hl : L ≤ 1000000) (hC : (Kd.int .i64).C w A L xs) (hD : (Kd.int .u8).C w B L (ints cs)) (hc : L ≤ c) (hd : L ≤ d) :
    Calls Tryd.prog 19 #[.slice A L c, .slice B L d] w fun e w' => e = .returned (.int .i64 (sc xs cs)) ∧ w = w' := by
  have HH := Aside0.mk (And.intro hC (And.intro hD (And.intro hb (And.intro hL hcs))))
  clear hC hD hb hL hcs
  go_enter Tryd.func19, Tryd.ntmps19
  go_wp2_with fail
  go_loopw [5, 6] (fun o s wr => ∃ t : Nat, s = .int .i64 t ∧ t ≤ L ∧ o = .int .i64 (scn xs cs t) ∧ w = wr) (fun _ s _ => L - (intOf s).toNat)
  case atStart => exact ⟨0, rfl, by omega, rfl, rfl⟩
  case round =>
    obtain ⟨t, rfl, ht, rfl, rfl⟩ := hrel
    by_cases h1 : t < L
    · have h1' : (t : Int) < (L : Int) := by omega
      obtain ⟨ad, hA, hcell⟩ := Kd.at_int HH.out.1 (t : Int) (by omega) h1'
      cases hA
      obtain ⟨ad2, hA2, hcell2⟩ := Kd.at_int HH.out.2.1 (t : Int) (by omega) h1'
      cases hA2
      have htl : t < xs.length := by have := HH.out.2.2.2.1; omega
      have htc : t < cs.length := by have := HH.out.2.2.2.2; omega
      have hx0 := HH.out.2.2.1 _ (List.getElem_mem htl)
      have hin := scn_in HH.out.2.2.1 cs t
      have hnx : scn xs cs (t + 1) = scn xs cs t + xs[t] * sg cs[t] := by
        rw [scn, List.getD_eq_getElem?_getD, List.getD_eq_getElem?_getD, List.getElem?_eq_getElem htl, List.getElem?_eq_getElem htc]
        rfl
      have hrd2 : rd (ints cs) (t : Int) = ((cs[t] : Nat) : Int) := by simp [rd, ints, List.getD_eq_getElem?_getD, List.getElem?_eq_getElem htc]
      rw [rd_at htl, Int.toNat_natCast] at hcell
      rw [hrd2, Int.toNat_natCast] at hcell2
      obtain ⟨x, hxx⟩ : ∃ x, xs[t] = x := ⟨_, rfl⟩
      obtain ⟨y, hyy⟩ : ∃ y, cs[t] = y := ⟨_, rfl⟩
      obtain ⟨S, hS⟩ : ∃ S, scn xs cs t = S := ⟨_, rfl⟩
      rw [hxx] at hcell hnx hx0
      rw [hyy] at hcell2 hnx
      rw [hS] at hnx hin ⊢
      by_cases hy : y = 0
      · subst hy
        have hw8 : wrap64 (S + x) = S + x := by unfold wrap64; omega
        have HN := Aside0.mk hnx
        clear hrd2 hxx hyy hnx hS hx0 hin
        go_wp2_with fail
        refine ⟨⟨t + 1, by go_num, by omega, ?_, by first | rfl | trivial⟩, by simp only [intOf]; omega⟩
        rw [HN.out]
        refine congrArg (Value.int .i64) ?_
        have e1 : sg 0 = 1 := rfl
        rw [e1]
        first | omega | (rw [hw8]; omega)
      · have hy0 : (((y : Nat) : Int) == 0) = false := by simpa using hy
        have hsy : sg y = -1 := if_neg hy
        rw [hsy] at hnx
        have hw8 : wrap64 (S - x) = S - x := by unfold wrap64; omega
        have HN := Aside0.mk hnx
        clear hrd2 hxx hyy hnx hS hx0 hin hy hsy
        go_wp2_with fail
        refine ⟨⟨t + 1, by go_num, by omega, ?_, by first | rfl | trivial⟩, by simp only [intOf]; omega⟩
        rw [HN.out]
        refine congrArg (Value.int .i64) ?_
        first | omega | (rw [hw8]; omega)
    · have h1' : ¬ (t : Int) < (L : Int) := by omega
      obtain rfl : t = L := by omega
      go_wp2_with fail
      go_ret
      have e := scn_sc xs cs (by rw [HH.out.2.2.2.1, HH.out.2.2.2.2])
      rw [HH.out.2.2.2.1] at e
      exact ⟨by rw [← e]; rfl, rfl⟩
/-- At how many of the first places bits are unlike. -/
def apn (a b : List Nat) : Nat → Nat
  | 0 => 0
  | t + 1 => apn a b t + if a.getD t 0 = b.getD t 0 then 0 else 1
theorem apn_cons (x y : Nat) (a b : List Nat) : ∀ t, apn (x :: a) (y :: b) (t + 1) = (if x = y then 0 else 1) + apn a b t
  | 0 => by simp [apn]
  | t + 1 => by
    rw [apn, apn_cons x y a b t]
    simp only [apn, List.getD_cons_succ]
    omega
theorem apn_apart : ∀ (a b : List Nat), a.length = b.length → apn a b a.length = apart a b
  | [], [], _ => rfl
  | [], _ :: _, h => by simp at h
  | _ :: _, [], h => by simp at h
  | x :: a, y :: b, h => by
    rw [List.length_cons, apn_cons, apn_apart a b (by simpa using h)]
    rfl
theorem apn_le (a b : List Nat) : ∀ t, apn a b t ≤ t
  | 0 => Nat.le_refl _
  | t + 1 => by
    have := apn_le a b t
    rw [apn]
    split <;> omega

set_option maxHeartbeats 3200000 in
set_option maxRecDepth 100000 in
theorem Apart_any (a b : List Nat) (A B : Option Addr) (c d L : Nat) (w : World) (ha : a.length = L) (hb : b.length = L) (hl : L ≤ 1000000) (hC : (Kd.int .u8).C w A L (ints a)) (hD : (Kd.int .u8).C w B L (ints b)) (hc : L ≤ c) (hd : L ≤ d) :
    Calls Tryd.prog 24 #[.slice A L c, .slice B L d] w fun e w' => e = .returned (.int .i64 (apart a b : Nat)) ∧ ∃ q, w' = w.drewN q := by
  have HH := Aside0.mk (And.intro hC (And.intro hD (And.intro ha hb)))
  clear hC hD ha hb
  go_enter Tryd.func24, Tryd.ntmps24
  go_wp2_with fail
  go_loopw [5, 6] (fun o s wr => ∃ t : Nat, s = .int .i64 t ∧ t ≤ L ∧ o = .int .i64 (apn a b t : Nat) ∧ ∃ q, wr = w.drewN q) (fun _ s _ => L - (intOf s).toNat)
  case atStart => exact ⟨0, rfl, by omega, rfl, 0, rfl⟩
  case round =>
    obtain ⟨t, rfl, ht, rfl, q, rfl⟩ := hrel
    by_cases h1 : t < L
    · have h1' : (t : Int) < (L : Int) := by omega
      obtain ⟨ad, hA, hcell⟩ := Kd.at_int HH.out.1 (t : Int) (by omega) h1'
      cases hA
      obtain ⟨ad2, hA2, hcell2⟩ := Kd.at_int HH.out.2.1 (t : Int) (by omega) h1'
      cases hA2
      have hta : t < a.length := by have := HH.out.2.2.1; omega
      have htb : t < b.length := by have := HH.out.2.2.2; omega
      have hin := apn_le a b t
      have hnx : apn a b (t + 1) = apn a b t + if a[t] = b[t] then 0 else 1 := by
        rw [apn, List.getD_eq_getElem?_getD, List.getD_eq_getElem?_getD, List.getElem?_eq_getElem hta, List.getElem?_eq_getElem htb]
        rfl
      have hrd1 : rd (ints a) (t : Int) = ((a[t] : Nat) : Int) := by simp [rd, ints, List.getD_eq_getElem?_getD, List.getElem?_eq_getElem hta]
      have hrd2 : rd (ints b) (t : Int) = ((b[t] : Nat) : Int) := by simp [rd, ints, List.getD_eq_getElem?_getD, List.getElem?_eq_getElem htb]
      rw [hrd1, Int.toNat_natCast] at hcell
      rw [hrd2, Int.toNat_natCast] at hcell2
      obtain ⟨x, hxx⟩ : ∃ x, a[t] = x := ⟨_, rfl⟩
      obtain ⟨y, hyy⟩ : ∃ y, b[t] = y := ⟨_, rfl⟩
      obtain ⟨S, hS⟩ : ∃ S, apn a b t = S := ⟨_, rfl⟩
      rw [hxx] at hcell hnx
      rw [hyy] at hcell2 hnx
      rw [hS] at hnx hin ⊢
      have hcell : ∀ q, (w.drewN q).cell? (ad.add t) = some (.int .u8 (x : Int)) := fun _ => hcell
      have hcell2 : ∀ q, (w.drewN q).cell? (ad2.add t) = some (.int .u8 (y : Int)) := fun _ => hcell2
      by_cases hy : x = y
      · rw [if_pos hy] at hnx
        have hxy : (((x : Nat) : Int) != (y : Int)) = false := by simp [hy]
        have HN := Aside0.mk hnx
        clear hrd1 hrd2 hxx hyy hnx hS hin hy
        go_wp2_with fail
        go_quiet (fail)
        go_wp2_with fail
        refine ⟨⟨t + 1, by go_num, by omega, ?_, _, rfl⟩, by simp only [intOf]; omega⟩
        rw [HN.out]
        rfl
      · rw [if_neg hy] at hnx
        have hxy : (((x : Nat) : Int) != (y : Int)) = true := bne_iff_ne.2 (by omega)
        have hw8 : wrap64 ((S : Int) + 1) = (S : Int) + 1 := by unfold wrap64; omega
        have HN := Aside0.mk hnx
        clear hrd1 hrd2 hxx hyy hnx hS hin hy
        go_wp2_with fail
        go_quiet (fail)
        go_wp2_with fail
        refine ⟨⟨t + 1, by go_num, by omega, ?_, _, rfl⟩, by simp only [intOf]; omega⟩
        rw [HN.out]
        go_num
    · have h1' : ¬ (t : Int) < (L : Int) := by omega
      obtain rfl : t = L := by omega
      go_wp2_with fail
      go_ret
      have e := apn_apart a b (by rw [HH.out.2.2.1, HH.out.2.2.2])
      rw [HH.out.2.2.1] at e
      exact ⟨by rw [← e]; rfl, q, rfl⟩
/-- A bit, turned at each place that says so. -/
def turnAt (c : Nat) (i : Nat) (at_ : List Int) : Nat → Nat
  | 0 => c
  | k + 1 => if at_.getD k 0 = (i : Int) then 1 - turnAt c i at_ k else turnAt c i at_ k
theorem turnAt_le {c : Nat} (hc : c ≤ 1) (i : Nat) (at_ : List Int) : ∀ k, turnAt c i at_ k ≤ 1
  | 0 => hc
  | k + 1 => by
    have := turnAt_le hc i at_ k
    unfold turnAt
    split <;> omega
/-- The first bits of a list, some turned. -/
def turnN (l : List Nat) (at_ : List Int) (n : Nat) : List Nat := (List.range n).map fun i => turnAt (l.getD i 0) i at_ at_.length
theorem turnN_next (l : List Nat) (at_ : List Int) (n : Nat) : turnN l at_ (n + 1) = turnN l at_ n ++ [turnAt (l.getD n 0) n at_ at_.length] := by
  unfold turnN
  rw [List.range_succ, List.map_append]
  rfl
theorem turnN_len (l : List Nat) (at_ : List Int) (n : Nat) : (turnN l at_ n).length = n := by simp [turnN]
theorem xor1_tab : (List.range 2).all (fun n => Go.bits .xor .u8 (n : Int) 1 == ((1 - n : Nat) : Int)) = true := by kernel_rfl
theorem xor1_is {n : Nat} (hn : n ≤ 1) : Go.bits .xor .u8 (n : Int) 1 = ((1 - n : Nat) : Int) := eq_of_beq (List.all_eq_true.1 xor1_tab n (List.mem_range.2 (by omega)))

set_option maxHeartbeats 3200000 in
set_option maxRecDepth 100000 in
theorem Turn_any (l : List Nat) (hl : Bits l) (at_ : List Int) (A B : Option Addr) (c d L M : Nat) (w : World) (hL : l.length = L) (hM : at_.length = M) (hL1 : L ≤ 1000000000) (hM1 : M ≤ 1000000000) (hC : (Kd.int .u8).C w A L (ints l)) (hD : (Kd.int .i64).C w B M at_) (hc : L ≤ c) (hd : M ≤ d) :
    Calls Tryd.prog 22 #[.slice A L c, .slice B M d] w fun e w' =>
      ∃ v, e = .returned v ∧ (Kd.int .u8).R 5 w' w.heap.size (fun _ => True) v (ints (turnN l at_ L)) ∧ Below w.heap.size w w' := by
  have HH := Aside0.mk (And.intro hC (And.intro hD (And.intro hl (And.intro hL hM))))
  clear hC hD hl hL hM
  go_enter Tryd.func22, Tryd.ntmps22
  go_wp2_with fail
  go_loopw [5, 6] (fun o s wr => ∃ t : Nat, s = .int .i64 t ∧ t ≤ L ∧ (Kd.int .u8).R 5 wr w.heap.size (fun _ => True) o (ints (turnN l at_ t)) ∧ Below w.heap.size w wr) (fun _ s _ => L - (intOf s).toNat)
  case atStart => exact ⟨0, rfl, by omega, Kd.R_nil _ _ _ _ _, Below.refl _ _⟩
  case round =>
    obtain ⟨t, rfl, ht, hR, hB⟩ := hrel
    have HR := Aside0.mk (And.intro hR hB)
    by_cases h1 : t < L
    · have h1' : (t : Int) < (L : Int) := by omega
      obtain ⟨ad, hA, hcell⟩ := Kd.at_int (Kd.C_below HH.out.1 hB) (t : Int) (by omega) h1'
      cases hA
      have htl : t < l.length := by have := HH.out.2.2.2.1; omega
      have hrd : rd (ints l) (t : Int) = ((l.getD t 0 : Nat) : Int) := by simp [rd, ints, List.getD_eq_getElem?_getD, List.getElem?_eq_getElem htl]
      have hx1 : l.getD t 0 ≤ 1 := by rw [List.getD_eq_getElem?_getD, List.getElem?_eq_getElem htl]; exact HH.out.2.2.1 _ (List.getElem_mem htl)
      rw [hrd, Int.toNat_natCast] at hcell
      have hnx := turnN_next l at_ t
      rw [HH.out.2.2.2.2] at hnx
      obtain ⟨x, hxx⟩ : ∃ x, l.getD t 0 = x := ⟨_, rfl⟩
      rw [hxx] at hcell hnx hx1
      have HX := Aside0.mk (And.intro hnx hx1)
      clear hR hB hrd hnx hxx hx1
      go_upto_block 2 with fail
      go_cut [7] (fun o wx => o = .int .u8 (turnAt x t at_ M : Nat) ∧ wr = wx)
      case first =>
        go_wp2_with fail
        go_loopw [7, 8] (fun o s w2 => ∃ k : Nat, s = .int .i64 k ∧ k ≤ M ∧ o = .int .u8 (turnAt x t at_ k : Nat) ∧ wr = w2) (fun _ s _ => M - (intOf s).toNat)
        case atStart => exact ⟨0, rfl, by omega, rfl, rfl⟩
        case round =>
          obtain ⟨k, rfl, hk, rfl, rfl⟩ := hrel
          by_cases h2 : k < M
          · have h2' : (k : Int) < (M : Int) := by omega
            obtain ⟨ad2, hA2, hcell2⟩ := Kd.at_int (Kd.C_below HH.out.2.1 HR.out.2) (k : Int) (by omega) h2'
            cases hA2
            have htk : k < at_.length := by have := HH.out.2.2.2.2; omega
            rw [rd_at htk, Int.toNat_natCast] at hcell2
            have hnk : turnAt x t at_ (k + 1) = if at_[k] = (t : Int) then 1 - turnAt x t at_ k else turnAt x t at_ k := by
              rw [turnAt, List.getD_eq_getElem?_getD, List.getElem?_eq_getElem htk]
              rfl
            have hle := turnAt_le HX.out.2 t at_ k
            obtain ⟨y, hyy⟩ : ∃ y, at_[k] = y := ⟨_, rfl⟩
            obtain ⟨S, hS⟩ : ∃ S, turnAt x t at_ k = S := ⟨_, rfl⟩
            rw [hyy] at hcell2 hnk
            rw [hS] at hnk hle ⊢
            by_cases hy : y = (t : Int)
            · rw [if_pos hy] at hnk
              have hyb : (y == (t : Int)) = true := by simpa using hy
              have hxr := xor1_is hle
              have HN := Aside0.mk hnk
              clear hyy hS hnk hle hy
              go_wp2_with fail
              refine ⟨⟨k + 1, by go_num, by omega, ?_, by first | rfl | trivial⟩, by simp only [intOf]; omega⟩
              rw [HN.out]
            · rw [if_neg hy] at hnk
              have hyb : (y == (t : Int)) = false := by simpa using hy
              have HN := Aside0.mk hnk
              clear hyy hS hnk hle hy
              go_wp2_with fail
              refine ⟨⟨k + 1, by go_num, by omega, ?_, by first | rfl | trivial⟩, by simp only [intOf]; omega⟩
              rw [HN.out]
          · have h2' : ¬ (k : Int) < (M : Int) := by omega
            obtain rfl : k = M := by omega
            go_wp2_with fail
            go_meet
            first | exact ⟨rfl, rfl⟩ | exact ⟨rfl, trivial⟩ | rfl
      case rest =>
        obtain ⟨rfl, rfl⟩ := hcut
        obtain ⟨P, hP⟩ : ∃ P, turnAt x t at_ M = P := ⟨_, rfl⟩
        have HP := Aside0.mk hP
        rw [hP]
        clear hP
        go_wp2_with (first | ((with_reducible refine gate_builtin (b := .append) (xs := #[.tmp 33, .tmp 35]) rfl ?_); at_builtin; refine Kd.R_append (Kd.int .u8) (w0 := w) w.heap.size rfl (.tmp 33) (.tmp 35) 25 5 (.int .u8 0) 1 rfl Tryd.underlying25 info5 rfl (by decide) (by omega) u5 (ints (turnN l at_ t)) (P : Int) [.int .u8 P] (fun _ => True) (fun _ => False) rfl rfl ?aP (fun _ hk => hk.elim) ?aF ?aO ?aB ?aS ?aL ?_; (case aP => exact rfl); (case aB => exact HR.out.2); (case aF => exact (fun _ _ => trivial)); (case aO => exact HR.out.1); (case aS => exact below_size HR.out.2); (case aL => rw [ints_len, turnN_len]; omega); intro v1 w7 ho hb hg hat; have HN := Aside0.mk (And.intro ho hb); clear ho hb hg hat))
        refine ⟨⟨t + 1, by go_num, by omega, ?_, HN.out.2⟩, by simp only [intOf]; omega⟩
        rw [HX.out.1, ints_append, HP.out]
        exact HN.out.1
    · have h1' : ¬ (t : Int) < (L : Int) := by omega
      obtain rfl : t = L := by omega
      go_wp2_with fail
      go_ret
      exact ⟨_, rfl, HR.out.1, HR.out.2⟩
end Go.Proofs.YticiilolmkbncaaDoor.Vit
