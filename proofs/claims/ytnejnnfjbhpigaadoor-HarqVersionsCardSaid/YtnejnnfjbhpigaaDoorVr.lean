/- Contracts of the document's helpers (Few, Score, Apart): each theorem says its own conditions. -/
import Derived.Test.YtnejnnfjbhpigaaDoorVm
namespace Go.Proofs.YtnejnnfjbhpigaaDoor.Vit
open Go.RowKit Go.Proofs.YtnejnnfjbhpigaaDoorW.PrintWords Go.Proofs.YtnejnnfjbhpigaaDoorW.PrintLast Go.Proofs.YtnejnnfjbhpigaaDoorW.PrintMore Go.Proofs.YtnejnnfjbhpigaaDoor.Mem
attribute [local go_sem] max2_int min2_int max_two min_two max_three min_three max_four min_four   -- for this text's walks alone
set_option linter.unusedVariables false
set_option linter.unusedSimpArgs false

/-- Some bits of a slice. -/
def few1 (xs : List Int) (n : Nat) : List Nat := (xs.take n).map fun x => x.toNat % 2
theorem few1_bits (xs : List Int) (n : Nat) : Bits (few1 xs n) := fun b hb => by
  obtain ⟨x, _, rfl⟩ := List.mem_map.1 hb
  omega
theorem few1_len (xs : List Int) (n : Nat) : (few1 xs n).length = min n xs.length := by simp [few1]
theorem rd_at {xs : List Int} {t : Nat} (h : t < xs.length) : rd xs (t : Int) = xs[t] := by simp [rd, List.getD_eq_getElem?_getD, List.getElem?_eq_getElem h]

/-- Some numbers of a slice. -/
def few8 (xs : List Int) (n : Nat) : List Int := (xs.take n).map fun x => x.tmod 32
theorem few8_in {xs : List Int} {n : Nat} {x : Int} (h : x ∈ few8 xs n) : -31 ≤ x ∧ x ≤ 31 := by
  obtain ⟨y, _, rfl⟩ := List.mem_map.1 h
  have h1 := Int.lt_tmod_of_pos y (show (0 : Int) < 32 by decide)
  have h2 := Int.tmod_lt_of_pos y (show (0 : Int) < 32 by decide)
  omega
theorem few8_len (xs : List Int) (n : Nat) : (few8 xs n).length = min n xs.length := by simp [few8]

/-- What the first numbers score. -/
def scn (xs : List Int) (cs : List Nat) : Nat → Int
  | 0 => 0
  | t + 1 => scn xs cs t + xs.getD t 0 * sg (cs.getD t 0)
theorem scn_cons (x : Int) (c : Nat) (xs : List Int) (cs : List Nat) : ∀ t, scn (x :: xs) (c :: cs) (t + 1) = x * sg c + scn xs cs t
  | 0 => by simp [scn]
  | t + 1 => by
    rw [scn, scn_cons x c xs cs t]
    simp only [scn, List.getD_cons_succ]
    omega
theorem scn_sc : ∀ (xs : List Int) (cs : List Nat), xs.length = cs.length → scn xs cs xs.length = sc xs cs
  | [], [], _ => rfl
  | [], _ :: _, h => by simp at h
  | _ :: _, [], h => by simp at h
  | x :: xs, c :: cs, h => by
    rw [List.length_cons, scn_cons, scn_sc xs cs (by simpa using h)]
    rfl
theorem scn_in {xs : List Int} (hb : ∀ x ∈ xs, -1000 ≤ x ∧ x ≤ 1000) (cs : List Nat) : ∀ t : Nat, -(1000 * (t : Int)) ≤ scn xs cs t ∧ scn xs cs t ≤ 1000 * (t : Int)
  | 0 => by simp [scn]
  | t + 1 => by
    have ih := scn_in hb cs t
    have hx : -1000 ≤ xs.getD t 0 ∧ xs.getD t 0 ≤ 1000 := by
      rw [List.getD_eq_getElem?_getD]
      by_cases h : t < xs.length
      · rw [List.getElem?_eq_getElem h]
        exact hb _ (List.getElem_mem h)
      · rw [List.getElem?_eq_none (by omega)]
        exact ⟨by decide, by decide⟩
    have := sg_mul (xs.getD t 0) (cs.getD t 0) hx.1 hx.2
    rw [scn]
    push_cast
    omega

set_option maxHeartbeats 3200000 in
set_option maxRecDepth 100000 in
theorem Score_any (xs : List Int) (cs : List Nat) (hb : ∀ x ∈ xs, -1000 ≤ x ∧ x ≤ 1000) (A B : Option Addr) (c d L : Nat) (w : World) (hL : xs.length = L) (hcs : cs.length = L) (hl : L ≤ 1000000) (hC : (Kd.int .i64).C w A L xs) (hD : (Kd.int .u8).C w B L (ints cs)) (hc : L ≤ c) (hd : L ≤ d) :
    Calls Tryd.prog 93 #[.slice A L c, .slice B L d] w fun e w' => e = .returned (.int .i64 (sc xs cs)) ∧ w = w' := by
  have HH := Aside0.mk (And.intro hC (And.intro hD (And.intro hb (And.intro hL hcs))))
  clear hC hD hb hL hcs
  go_enter Tryd.func93, Tryd.ntmps93
  go_wp2_with fail
  go_loopw [5, 6] (fun o s wr => ∃ t : Nat, s = .int .i64 t ∧ t ≤ L ∧ o = .int .i64 (scn xs cs t) ∧ w = wr) (fun _ s _ => L - (intOf s).toNat)
  case atStart => exact ⟨0, rfl, by omega, rfl, rfl⟩
  case round =>
    obtain ⟨t, rfl, ht, rfl, rfl⟩ := hrel
    by_cases h1 : t < L
    · have h1' : (t : Int) < (L : Int) := by omega
      obtain ⟨ad, hA, hcell⟩ := Kd.at_int HH.out.1 (t : Int) (by omega) h1'
      cases hA
      obtain ⟨ad2, hA2, hcell2⟩ := Kd.at_int HH.out.2.1 (t : Int) (by omega) h1'
      cases hA2
      have htl : t < xs.length := by have := HH.out.2.2.2.1; omega
      have htc : t < cs.length := by have := HH.out.2.2.2.2; omega
      have hx0 := HH.out.2.2.1 _ (List.getElem_mem htl)
      have hin := scn_in HH.out.2.2.1 cs t
      have hnx : scn xs cs (t + 1) = scn xs cs t + xs[t] * sg cs[t] := by
        rw [scn, List.getD_eq_getElem?_getD, List.getD_eq_getElem?_getD, List.getElem?_eq_getElem htl, List.getElem?_eq_getElem htc]
        rfl
      have hrd2 : rd (ints cs) (t : Int) = ((cs[t] : Nat) : Int) := by simp [rd, ints, List.getD_eq_getElem?_getD, List.getElem?_eq_getElem htc]
      rw [rd_at htl, Int.toNat_natCast] at hcell
      rw [hrd2, Int.toNat_natCast] at hcell2
      obtain ⟨x, hxx⟩ : ∃ x, xs[t] = x := ⟨_, rfl⟩
      obtain ⟨y, hyy⟩ : ∃ y, cs[t] = y := ⟨_, rfl⟩
      obtain ⟨S, hS⟩ : ∃ S, scn xs cs t = S := ⟨_, rfl⟩
      rw [hxx] at hcell hnx hx0
      rw [hyy] at hcell2 hnx
      rw [hS] at hnx hin ⊢
      by_cases hy : y = 0
      · subst hy
        have hw8 : wrap64 (S + x) = S + x := by unfold wrap64; omega
        have HN := Aside0.mk hnx
        clear hrd2 hxx hyy hnx hS hx0 hin
        go_wp2_with fail
        refine ⟨⟨t + 1, by go_num, by omega, ?_, by first | rfl | trivial⟩, by simp only [intOf]; omega⟩
        rw [HN.out]
        refine congrArg (Value.int .i64) ?_
        have e1 : sg 0 = 1 := rfl
        rw [e1]
        first | omega | (rw [hw8]; omega)
      · have hy0 : (((y : Nat) : Int) == 0) = false := by simpa using hy
        have hsy : sg y = -1 := if_neg hy
        rw [hsy] at hnx
        have hw8 : wrap64 (S - x) = S - x := by unfold wrap64; omega
        have HN := Aside0.mk hnx
        clear hrd2 hxx hyy hnx hS hx0 hin hy hsy
        go_wp2_with fail
        refine ⟨⟨t + 1, by go_num, by omega, ?_, by first | rfl | trivial⟩, by simp only [intOf]; omega⟩
        rw [HN.out]
        refine congrArg (Value.int .i64) ?_
        first | omega | (rw [hw8]; omega)
    · have h1' : ¬ (t : Int) < (L : Int) := by omega
      obtain rfl : t = L := by omega
      go_wp2_with fail
      go_ret
      have e := scn_sc xs cs (by rw [HH.out.2.2.2.1, HH.out.2.2.2.2])
      rw [HH.out.2.2.2.1] at e
      exact ⟨by rw [← e]; rfl, rfl⟩
/-- At how many of the first places bits are unlike. -/
def apn (a b : List Nat) : Nat → Nat
  | 0 => 0
  | t + 1 => apn a b t + if a.getD t 0 = b.getD t 0 then 0 else 1
theorem apn_cons (x y : Nat) (a b : List Nat) : ∀ t, apn (x :: a) (y :: b) (t + 1) = (if x = y then 0 else 1) + apn a b t
  | 0 => by simp [apn]
  | t + 1 => by
    rw [apn, apn_cons x y a b t]
    simp only [apn, List.getD_cons_succ]
    omega
theorem apn_apart : ∀ (a b : List Nat), a.length = b.length → apn a b a.length = apart a b
  | [], [], _ => rfl
  | [], _ :: _, h => by simp at h
  | _ :: _, [], h => by simp at h
  | x :: a, y :: b, h => by
    rw [List.length_cons, apn_cons, apn_apart a b (by simpa using h)]
    rfl
theorem apn_le (a b : List Nat) : ∀ t, apn a b t ≤ t
  | 0 => Nat.le_refl _
  | t + 1 => by
    have := apn_le a b t
    rw [apn]
    split <;> omega

set_option maxHeartbeats 3200000 in
set_option maxRecDepth 100000 in
theorem Apart_any (a b : List Nat) (A B : Option Addr) (c d L : Nat) (w : World) (ha : a.length = L) (hb : b.length = L) (hl : L ≤ 1000000) (hC : (Kd.int .u8).C w A L (ints a)) (hD : (Kd.int .u8).C w B L (ints b)) (hc : L ≤ c) (hd : L ≤ d) :
    Calls Tryd.prog 14 #[.slice A L c, .slice B L d] w fun e w' => e = .returned (.int .i64 (apart a b : Nat)) ∧ ∃ q, w' = w.drewN q := by
  have HH := Aside0.mk (And.intro hC (And.intro hD (And.intro ha hb)))
  clear hC hD ha hb
  go_enter Tryd.func14, Tryd.ntmps14
  go_wp2_with fail
  go_loopw [5, 6] (fun o s wr => ∃ t : Nat, s = .int .i64 t ∧ t ≤ L ∧ o = .int .i64 (apn a b t : Nat) ∧ ∃ q, wr = w.drewN q) (fun _ s _ => L - (intOf s).toNat)
  case atStart => exact ⟨0, rfl, by omega, rfl, 0, rfl⟩
  case round =>
    obtain ⟨t, rfl, ht, rfl, q, rfl⟩ := hrel
    by_cases h1 : t < L
    · have h1' : (t : Int) < (L : Int) := by omega
      obtain ⟨ad, hA, hcell⟩ := Kd.at_int HH.out.1 (t : Int) (by omega) h1'
      cases hA
      obtain ⟨ad2, hA2, hcell2⟩ := Kd.at_int HH.out.2.1 (t : Int) (by omega) h1'
      cases hA2
      have hta : t < a.length := by have := HH.out.2.2.1; omega
      have htb : t < b.length := by have := HH.out.2.2.2; omega
      have hin := apn_le a b t
      have hnx : apn a b (t + 1) = apn a b t + if a[t] = b[t] then 0 else 1 := by
        rw [apn, List.getD_eq_getElem?_getD, List.getD_eq_getElem?_getD, List.getElem?_eq_getElem hta, List.getElem?_eq_getElem htb]
        rfl
      have hrd1 : rd (ints a) (t : Int) = ((a[t] : Nat) : Int) := by simp [rd, ints, List.getD_eq_getElem?_getD, List.getElem?_eq_getElem hta]
      have hrd2 : rd (ints b) (t : Int) = ((b[t] : Nat) : Int) := by simp [rd, ints, List.getD_eq_getElem?_getD, List.getElem?_eq_getElem htb]
      rw [hrd1, Int.toNat_natCast] at hcell
      rw [hrd2, Int.toNat_natCast] at hcell2
      obtain ⟨x, hxx⟩ : ∃ x, a[t] = x := ⟨_, rfl⟩
      obtain ⟨y, hyy⟩ : ∃ y, b[t] = y := ⟨_, rfl⟩
      obtain ⟨S, hS⟩ : ∃ S, apn a b t = S := ⟨_, rfl⟩
      rw [hxx] at hcell hnx
      rw [hyy] at hcell2 hnx
      rw [hS] at hnx hin ⊢
      have hcell : ∀ q, (w.drewN q).cell? (ad.add t) = some (.int .u8 (x : Int)) := fun _ => hcell
      have hcell2 : ∀ q, (w.drewN q).cell? (ad2.add t) = some (.int .u8 (y : Int)) := fun _ => hcell2
      by_cases hy : x = y
      · rw [if_pos hy] at hnx
        have hxy : (((x : Nat) : Int) != (y : Int)) = false := by simp [hy]
        have HN := Aside0.mk hnx
        clear hrd1 hrd2 hxx hyy hnx hS hin hy
        go_wp2_with fail
        go_quiet (fail)
        go_wp2_with fail
        refine ⟨⟨t + 1, by go_num, by omega, ?_, _, rfl⟩, by simp only [intOf]; omega⟩
        rw [HN.out]
        rfl
      · rw [if_neg hy] at hnx
        have hxy : (((x : Nat) : Int) != (y : Int)) = true := bne_iff_ne.2 (by omega)
        have hw8 : wrap64 ((S : Int) + 1) = (S : Int) + 1 := by unfold wrap64; omega
        have HN := Aside0.mk hnx
        clear hrd1 hrd2 hxx hyy hnx hS hin hy
        go_wp2_with fail
        go_quiet (fail)
        go_wp2_with fail
        refine ⟨⟨t + 1, by go_num, by omega, ?_, _, rfl⟩, by simp only [intOf]; omega⟩
        rw [HN.out]
        go_num
    · have h1' : ¬ (t : Int) < (L : Int) := by omega
      obtain rfl : t = L := by omega
      go_wp2_with fail
      go_ret
      have e := apn_apart a b (by rw [HH.out.2.2.1, HH.out.2.2.2])
      rw [HH.out.2.2.1] at e
      exact ⟨by rw [← e]; rfl, q, rfl⟩
/-- A bit, turned at each place that says so. -/
def turnAt (c : Nat) (i : Nat) (at_ : List Int) : Nat → Nat
  | 0 => c
  | k + 1 => if at_.getD k 0 = (i : Int) then 1 - turnAt c i at_ k else turnAt c i at_ k
theorem turnAt_le {c : Nat} (hc : c ≤ 1) (i : Nat) (at_ : List Int) : ∀ k, turnAt c i at_ k ≤ 1
  | 0 => hc
  | k + 1 => by
    have := turnAt_le hc i at_ k
    unfold turnAt
    split <;> omega
/-- The first bits of a list, some turned. -/
def turnN (l : List Nat) (at_ : List Int) (n : Nat) : List Nat := (List.range n).map fun i => turnAt (l.getD i 0) i at_ at_.length
theorem turnN_next (l : List Nat) (at_ : List Int) (n : Nat) : turnN l at_ (n + 1) = turnN l at_ n ++ [turnAt (l.getD n 0) n at_ at_.length] := by
  unfold turnN
  rw [List.range_succ, List.map_append]
  rfl
theorem turnN_len (l : List Nat) (at_ : List Int) (n : Nat) : (turnN l at_ n).length = n := by simp [turnN]
theorem xor1_tab : (List.range 2).all (fun n => Go.bits .xor .u8 (n : Int) 1 == ((1 - n : Nat) : Int)) = true := by kernel_rfl
theorem xor1_is {n : Nat} (hn : n ≤ 1) : Go.bits .xor .u8 (n : Int) 1 = ((1 - n : Nat) : Int) := eq_of_beq (List.all_eq_true.1 xor1_tab n (List.mem_range.2 (by omega)))

set_option maxHeartbeats 3200000 in
set_option maxRecDepth 100000 in
theorem Turn_any (l : List Nat) (hl : Bits l) (at_ : List Int) (A B : Option Addr) (c d L M : Nat) (w : World) (hL : l.length = L) (hM : at_.length = M) (hL1 : L ≤ 1000000000) (hM1 : M ≤ 1000000000) (hC : (Kd.int .u8).C w A L (ints l)) (hD : (Kd.int .i64).C w B M at_) (hc : L ≤ c) (hd : M ≤ d) :
    Calls Tryd.prog 29 #[.slice A L c, .slice B M d] w fun e w' =>
      ∃ v, e = .returned v ∧ (Kd.int .u8).R 5 w' w.heap.size (fun _ => True) v (ints (turnN l at_ L)) ∧ Below w.heap.size w w' := by
  have HH := Aside0.mk (And.intro hC (And.intro hD (And.intro hl (And.intro hL hM))))
  clear hC hD hl hL hM
  go_enter Tryd.func29, Tryd.ntmps29
  go_wp2_with fail
  go_loopw [5, 6] (fun o s wr => ∃ t : Nat, s = .int .i64 t ∧ t ≤ L ∧ (Kd.int .u8).R 5 wr w.heap.size (fun _ => True) o (ints (turnN l at_ t)) ∧ Below w.heap.size w wr) (fun _ s _ => L - (intOf s).toNat)
  case atStart => exact ⟨0, rfl, by omega, Kd.R_nil _ _ _ _ _, Below.refl _ _⟩
  case round =>
    obtain ⟨t, rfl, ht, hR, hB⟩ := hrel
    have HR := Aside0.mk (And.intro hR hB)
    by_cases h1 : t < L
    · have h1' : (t : Int) < (L : Int) := by omega
      obtain ⟨ad, hA, hcell⟩ := Kd.at_int (Kd.C_below HH.out.1 hB) (t : Int) (by omega) h1'
      cases hA
      have htl : t < l.length := by have := HH.out.2.2.2.1; omega
      have hrd : rd (ints l) (t : Int) = ((l.getD t 0 : Nat) : Int) := by simp [rd, ints, List.getD_eq_getElem?_getD, List.getElem?_eq_getElem htl]
      have hx1 : l.getD t 0 ≤ 1 := by rw [List.getD_eq_getElem?_getD, List.getElem?_eq_getElem htl]; exact HH.out.2.2.1 _ (List.getElem_mem htl)
      rw [hrd, Int.toNat_natCast] at hcell
      have hnx := turnN_next l at_ t
      rw [HH.out.2.2.2.2] at hnx
      obtain ⟨x, hxx⟩ : ∃ x, l.getD t 0 = x := ⟨_, rfl⟩
      rw [hxx] at hcell hnx hx1
      have HX := Aside0.mk (And.intro hnx hx1)
      clear hR hB hrd hnx hxx hx1
      go_upto_block 2 with fail
      go_cut [7] (fun o wx => o = .int .u8 (turnAt x t at_ M : Nat) ∧ wr = wx)
      case first =>
        go_wp2_with fail
        go_loopw [7, 8] (fun o s w2 => ∃ k : Nat, s = .int .i64 k ∧ k ≤ M ∧ o = .int .u8 (turnAt x t at_ k : Nat) ∧ wr = w2) (fun _ s _ => M - (intOf s).toNat)
        case atStart => exact ⟨0, rfl, by omega, rfl, rfl⟩
        case round =>
          obtain ⟨k, rfl, hk, rfl, rfl⟩ := hrel
          by_cases h2 : k < M
          · have h2' : (k : Int) < (M : Int) := by omega
            obtain ⟨ad2, hA2, hcell2⟩ := Kd.at_int (Kd.C_below HH.out.2.1 HR.out.2) (k : Int) (by omega) h2'
            cases hA2
            have htk : k < at_.length := by have := HH.out.2.2.2.2; omega
            rw [rd_at htk, Int.toNat_natCast] at hcell2
            have hnk : turnAt x t at_ (k + 1) = if at_[k] = (t : Int) then 1 - turnAt x t at_ k else turnAt x t at_ k := by
              rw [turnAt, List.getD_eq_getElem?_getD, List.getElem?_eq_getElem htk]
              rfl
            have hle := turnAt_le HX.out.2 t at_ k
            obtain ⟨y, hyy⟩ : ∃ y, at_[k] = y := ⟨_, rfl⟩
            obtain ⟨S, hS⟩ : ∃ S, turnAt x t at_ k = S := ⟨_, rfl⟩
            rw [hyy] at hcell2 hnk
            rw [hS] at hnk hle ⊢
            by_cases hy : y = (t : Int)
            · rw [if_pos hy] at hnk
              have hyb : (y == (t : Int)) = true := by simpa using hy
              have hxr := xor1_is hle
              have HN := Aside0.mk hnk
              clear hyy hS hnk hle hy
              go_wp2_with fail
              refine ⟨⟨k + 1, by go_num, by omega, ?_, by first | rfl | trivial⟩, by simp only [intOf]; omega⟩
              rw [HN.out]
            · rw [if_neg hy] at hnk
              have hyb : (y == (t : Int)) = false := by simpa using hy
              have HN := Aside0.mk hnk
              clear hyy hS hnk hle hy
              go_wp2_with fail
              refine ⟨⟨k + 1, by go_num, by omega, ?_, by first | rfl | trivial⟩, by simp only [intOf]; omega⟩
              rw [HN.out]
          · have h2' : ¬ (k : Int) < (M : Int) := by omega
            obtain rfl : k = M := by omega
            go_wp2_with fail
            go_meet
            first | exact ⟨rfl, rfl⟩ | exact ⟨rfl, trivial⟩ | rfl
      case rest =>
        obtain ⟨rfl, rfl⟩ := hcut
        obtain ⟨P, hP⟩ : ∃ P, turnAt x t at_ M = P := ⟨_, rfl⟩
        have HP := Aside0.mk hP
        rw [hP]
        clear hP
        go_wp2_with (first | ((with_reducible refine gate_builtin (b := .append) (xs := #[.tmp 33, .tmp 35]) rfl ?_); at_builtin; refine Kd.R_append (Kd.int .u8) (w0 := w) w.heap.size rfl (.tmp 33) (.tmp 35) 22 5 (.int .u8 0) 1 rfl Tryd.underlying22 info5 rfl (by decide) (by omega) u5 (ints (turnN l at_ t)) (P : Int) [.int .u8 P] (fun _ => True) (fun _ => False) rfl rfl ?aP (fun _ hk => hk.elim) ?aF ?aO ?aB ?aS ?aL ?_; (case aP => exact rfl); (case aB => exact HR.out.2); (case aF => exact (fun _ _ => trivial)); (case aO => exact HR.out.1); (case aS => exact below_size HR.out.2); (case aL => rw [ints_len, turnN_len]; omega); intro v1 w7 ho hb hg hat; have HN := Aside0.mk (And.intro ho hb); clear ho hb hg hat))
        refine ⟨⟨t + 1, by go_num, by omega, ?_, HN.out.2⟩, by simp only [intOf]; omega⟩
        rw [HX.out.1, ints_append, HP.out]
        exact HN.out.1
    · have h1' : ¬ (t : Int) < (L : Int) := by omega
      obtain rfl : t = L := by omega
      go_wp2_with fail
      go_ret
      exact ⟨_, rfl, HR.out.1, HR.out.2⟩
end Go.Proofs.YtnejnnfjbhpigaaDoor.Vit

namespace Go.Proofs.YtnejnnfjbhpigaaDoor.Vit
open Go.RowKit Go.Proofs.YtnejnnfjbhpigaaDoorW.PrintWords Go.Proofs.YtnejnnfjbhpigaaDoorW.PrintLast Go.Proofs.YtnejnnfjbhpigaaDoorW.PrintMore Go.Proofs.YtnejnnfjbhpigaaDoor.Mem
attribute [local go_sem] max2_int min2_int max_two min_two max_three min_three max_four min_four   -- for this text's walks alone
set_option linter.unusedVariables false
set_option linter.unusedSimpArgs false

theorem turnN_bits {l : List Nat} (hl : Bits l) (at_ : List Int) (n : Nat) : Bits (turnN l at_ n) := fun b hb => by
  obtain ⟨i, _, rfl⟩ := List.mem_map.1 hb
  refine turnAt_le ?_ i at_ _
  rw [List.getD_eq_getElem?_getD]
  by_cases h : i < l.length
  · rw [List.getElem?_eq_getElem h]; exact hl _ (List.getElem_mem h)
  · rw [List.getElem?_eq_none (by omega)]; exact Nat.zero_le _
theorem turnN_at (l : List Nat) (at_ : List Int) (n t : Nat) (h : t < n) : (turnN l at_ n).getD t 0 = turnAt (l.getD t 0) t at_ at_.length := by
  unfold turnN
  rw [List.getD_eq_getElem?_getD, List.getElem?_map, List.getElem?_range h]
  rfl
theorem turn_one (l : List Nat) (y : Int) (n : Nat) : ∀ t, t ≤ n → apn (turnN l [y] n) l t ≤ if y < (t : Int) then 1 else 0
  | 0, _ => by simp [apn]
  | t + 1, h => by
    have ih := turn_one l y n t (by omega)
    rw [apn, turnN_at l [y] n t (by omega)]
    have e : turnAt (l.getD t 0) t [y] [y].length = if y = (t : Int) then 1 - l.getD t 0 else l.getD t 0 := rfl
    rw [e]
    by_cases hy : y = (t : Int)
    · rw [if_neg (by omega)] at ih
      rw [if_pos (show y < ((t + 1 : Nat) : Int) by omega), if_pos hy]
      split <;> omega
    · rw [if_neg hy, if_pos rfl]
      by_cases h2 : y < (t : Int)
      · rw [if_pos h2] at ih
        rw [if_pos (show y < ((t + 1 : Nat) : Int) by omega)]
        omega
      · rw [if_neg h2] at ih
        rw [if_neg (show ¬ y < ((t + 1 : Nat) : Int) by omega)]
        omega
theorem turn_apart (l : List Nat) (y : Int) : apart (turnN l [y] l.length) l ≤ 1 := by
  have h := turn_one l y l.length l.length (Nat.le_refl _)
  have e := apn_apart (turnN l [y] l.length) l (turnN_len _ _ _)
  rw [turnN_len] at e
  rw [← e]
  split at h <;> omega

end Go.Proofs.YtnejnnfjbhpigaaDoor.Vit

namespace Go.Proofs.YtnejnnfjbhpigaaDoor.Vit
open Go.RowKit Go.Proofs.YtnejnnfjbhpigaaDoorW.PrintWords Go.Proofs.YtnejnnfjbhpigaaDoorW.PrintLast Go.Proofs.YtnejnnfjbhpigaaDoorW.PrintMore Go.Proofs.YtnejnnfjbhpigaaDoor.Mem
attribute [local go_sem] max2_int min2_int max_two min_two max_three min_three max_four min_four   -- for this text's walks alone
set_option linter.unusedVariables false
set_option linter.unusedSimpArgs false

theorem size3 : (Tryd.prog.info? 3).map (·.size) = some 1 := by kernel_rfl
/-- Numbers, made as long as need be by noughts. -/
def padTo (xs : List Int) (n : Nat) : List Int := (few8 xs n).take (min (few8 xs n).length n) ++ (List.replicate n 0).drop (min (few8 xs n).length n)
theorem padTo_len (xs : List Int) (n : Nat) : (padTo xs n).length = n := by
  unfold padTo
  rw [List.length_append, List.length_take, List.length_drop, List.length_replicate]
  omega
theorem padTo_in {xs : List Int} {n : Nat} {x : Int} (h : x ∈ padTo xs n) : -31 ≤ x ∧ x ≤ 31 := by
  rcases List.mem_append.1 h with h | h
  · exact few8_in (List.mem_of_mem_take h)
  · have := List.eq_of_mem_replicate (List.mem_of_mem_drop h)
    omega
theorem made_R {k : IntKind} {W : World} {e L : Nat} {Z : Array Value} (hL : L ≤ 1099511627776) (hZ : madeCells #[Value.int k 0] L = Z) (base : Nat) (hb : base ≤ W.heap.size) :
    (Kd.int k).R e (W.alloc (.cells Z e)) base (fun _ => True) (.slice (some ⟨W.heap.size, 0, none⟩) L L) (List.replicate L 0) := by
  rw [← hZ]
  exact Kd.R_of_own (enc := Value.int k) (h1 := fun _ => rfl) (own_made' W base e k L hb (by omega)) (fun _ _ => trivial)
/-- No list scores more than what is told. -/
theorem told_most {Y : List Int} {m : List Nat} {L : Nat} (hm : m.length = L) (hL : L ≤ 4096) (hb : Bits m) (hY : Y.length = 4 * (L + 6)) (hin : ∀ y ∈ Y, -31 ≤ y ∧ y ≤ 31) : sc Y (code m) ≤ cv (fun j => Y.getD j 0) L (L + 6) 0 0 := by
  have hf : ∀ j, -1000 ≤ (fun j => Y.getD j 0) j ∧ (fun j => Y.getD j 0) j ≤ 1000 := fun j => by
    show -1000 ≤ Y.getD j 0 ∧ Y.getD j 0 ≤ 1000
    by_cases hj : j < Y.length
    · have h1 : Y.getD j 0 ∈ Y := by rw [List.getD_eq_getElem?_getD, List.getElem?_eq_getElem hj]; exact List.getElem_mem hj
      have := hin _ h1
      omega
    · rw [List.getD_eq_getElem?_getD, List.getElem?_eq_none (by omega)]
      exact ⟨by decide, by decide⟩
  have h1 := (cv_best hf hL L 0 0 (by omega) (by omega)).1 m hm hb
  have h2 := ps_sc (fun j => Y.getD j 0) (m ++ zs 6) 0 0 Y (by rw [hY, List.length_append, zs_len, hm]) (fun j => Or.inl (by rw [Nat.mul_zero, Nat.zero_add]))
  rw [h2] at h1
  exact h1

end Go.Proofs.YtnejnnfjbhpigaaDoor.Vit

namespace Go.Proofs.YtnejnnfjbhpigaaDoor.Vit
open Go.RowKit Go.Proofs.YtnejnnfjbhpigaaDoorW.PrintWords Go.Proofs.YtnejnnfjbhpigaaDoorW.PrintLast Go.Proofs.YtnejnnfjbhpigaaDoorW.PrintMore Go.Proofs.YtnejnnfjbhpigaaDoor.Mem
attribute [local go_sem] max2_int min2_int max_two min_two max_three min_three max_four min_four   -- for this text's walks alone
set_option linter.unusedVariables false
set_option linter.unusedSimpArgs false

/-- The bits of a number, the greatest first. -/
def bitsOf : Nat → Nat → List Nat
  | 0, _ => []
  | n + 1, k => k / 2 ^ n % 2 :: bitsOf n k
theorem bitsOf_len : ∀ n k, (bitsOf n k).length = n
  | 0, _ => rfl
  | n + 1, k => by unfold bitsOf; rw [List.length_cons, bitsOf_len n k]
theorem bitsOf_bits : ∀ n k, Bits (bitsOf n k)
  | 0, _ => fun b hb => by simp [bitsOf] at hb
  | n + 1, k => by
    intro b hb
    unfold bitsOf at hb
    rcases List.mem_cons.1 hb with rfl | h
    · omega
    · exact bitsOf_bits n k b h
theorem num_bitsOf : ∀ n k, num (bitsOf n k) = k % 2 ^ n
  | 0, k => by simp [bitsOf, num, Nat.mod_one]
  | n + 1, k => by
    show k / 2 ^ n % 2 * 2 ^ (bitsOf n k).length + num (bitsOf n k) = _
    rw [bitsOf_len, num_bitsOf n k, Nat.pow_succ, Nat.mod_mul, Nat.mul_comm]
    omega
theorem bitsOf_take : ∀ n k j, j < n → (bitsOf n k).take (j + 1) = (bitsOf n k).take j ++ [k / 2 ^ (n - 1 - j) % 2]
  | 0, k, j, h => absurd h (Nat.not_lt_zero _)
  | n + 1, k, 0, _ => by simp [bitsOf]
  | n + 1, k, j + 1, h => by
    unfold bitsOf
    rw [List.take_succ_cons, bitsOf_take n k j (by omega), List.take_succ_cons, List.cons_append, show n + 1 - 1 - (j + 1) = n - 1 - j by omega]

/-- What the list of a number scores. -/
def scof (Y : List Int) (n i : Nat) : Int := sc Y (code (bitsOf n i))
/-- What the loop over all lists has at hand. -/
def BrSt (Y : List Int) (n k : Nat) (tp : Value) (sv : Int) (wr : World) : Prop :=
  (k = 0 ∧ tp = .slice none 0 0 ∧ sv = none40) ∨
    ∃ (kb : Nat) (At : Option Addr) (ct : Nat), kb < k ∧ tp = .slice At n ct ∧ n ≤ ct ∧ sv = scof Y n kb ∧ (Kd.int .u8).C wr At n (ints (bitsOf n kb)) ∧ (∀ i, i < k → scof Y n i ≤ sv) ∧ ∀ i, i < kb → scof Y n i < sv
theorem BrSt.below {Y : List Int} {n k : Nat} {tp : Value} {sv : Int} {w w1 : World} (h : BrSt Y n k tp sv w) (hb : Below w.heap.size w w1) : BrSt Y n k tp sv w1 := by
  rcases h with h | ⟨kb, At, ct, h1, h2, h3, h4, h5, h6, h7⟩
  · exact Or.inl h
  · exact Or.inr ⟨kb, At, ct, h1, h2, h3, h4, Kd.C_below h5 hb, h6, h7⟩
theorem BrSt.more {Y : List Int} {n k : Nat} {tp : Value} {sv : Int} {w : World} (h : BrSt Y n k tp sv w) (hs : sv < scof Y n k) {At : Option Addr} {ct : Nat} (hc : n ≤ ct) (hC : (Kd.int .u8).C w At n (ints (bitsOf n k))) :
    BrSt Y n (k + 1) (.slice At n ct) (scof Y n k) w := by
  refine Or.inr ⟨k, At, ct, by omega, rfl, hc, rfl, hC, fun i hi => ?_, fun i hi => ?_⟩
  · by_cases he : i = k
    · rw [he]; exact Int.le_refl _
    · rcases h with h | ⟨kb, _, _, h1, _, _, h4, _, h6, _⟩
      · omega
      · have := h6 i (by omega); omega
  · rcases h with h | ⟨kb, _, _, h1, _, _, h4, _, h6, _⟩
    · omega
    · have := h6 i (by omega); omega
theorem BrSt.same {Y : List Int} {n k : Nat} {tp : Value} {sv : Int} {w : World} (h : BrSt Y n k tp sv w) (hs : scof Y n k ≤ sv) (h40 : none40 < scof Y n k) : BrSt Y n (k + 1) tp sv w := by
  rcases h with h | ⟨kb, At, ct, h1, h2, h3, h4, h5, h6, h7⟩
  · omega
  · refine Or.inr ⟨kb, At, ct, by omega, h2, h3, h4, h5, fun i hi => ?_, h7⟩
    by_cases he : i = k
    · rw [he]; exact hs
    · exact h6 i (by omega)
theorem in1000 {Y : List Int} (hin : ∀ y ∈ Y, -31 ≤ y ∧ y ≤ 31) : ∀ j, -1000 ≤ (fun j => Y.getD j 0) j ∧ (fun j => Y.getD j 0) j ≤ 1000 := fun j => by
  show -1000 ≤ Y.getD j 0 ∧ Y.getD j 0 ≤ 1000
  by_cases hj : j < Y.length
  · have h1 : Y.getD j 0 ∈ Y := by rw [List.getD_eq_getElem?_getD, List.getElem?_eq_getElem hj]; exact List.getElem_mem hj
    have := hin _ h1
    omega
  · rw [List.getD_eq_getElem?_getD, List.getElem?_eq_none (by omega)]
    exact ⟨by decide, by decide⟩
theorem scof_ps {Y : List Int} {n : Nat} (hY : Y.length = 4 * (n + 6)) (i : Nat) : ps (fun j => Y.getD j 0) 0 0 (bitsOf n i ++ zs 6) = scof Y n i :=
  ps_sc (fun j => Y.getD j 0) (bitsOf n i ++ zs 6) 0 0 Y (by rw [hY, List.length_append, zs_len, bitsOf_len]) (fun j => Or.inl (by rw [Nat.mul_zero, Nat.zero_add]))
theorem scof_40 {Y : List Int} {n : Nat} (hn : n < 8) (hY : Y.length = 4 * (n + 6)) (hin : ∀ y ∈ Y, -31 ≤ y ∧ y ≤ 31) (i : Nat) : none40 < scof Y n i := by
  have h := (ps_in (in1000 hin) (bitsOf n i ++ zs 6) 0 0).1
  rw [scof_ps hY, List.length_append, bitsOf_len, zs_len] at h
  have := n40
  push_cast at h
  omega
/-- When all are done: the best way. -/
theorem BrSt.done {Y : List Int} {n : Nat} {tp : Value} {sv : Int} {w : World} (hn : n < 8) (hY : Y.length = 4 * (n + 6)) (hin : ∀ y ∈ Y, -31 ≤ y ∧ y ≤ 31) (h : BrSt Y n (2 ^ n) tp sv w) :
    ∃ At ct, tp = .slice At n ct ∧ sv = cv (fun j => Y.getD j 0) n (n + 6) 0 0 ∧ (Kd.int .u8).C w At n (ints (bw (fun j => Y.getD j 0) n (n + 6) n 0 0)) := by
  have hpos : 0 < 2 ^ n := Nat.two_pow_pos n
  rcases h with h | ⟨kb, At, ct, h1, h2, h3, h4, h5, h6, h7⟩
  · omega
  obtain ⟨a1, b1, _, d1⟩ := cv_best (in1000 hin) (show n ≤ 4096 by omega) n 0 0 (by omega) (by omega)
  obtain ⟨f, hf⟩ : ∃ f : Nat → Int, (fun j => Y.getD j 0) = f := ⟨_, rfl⟩
  have hps := fun i => scof_ps hY i
  rw [hf] at a1 b1 d1 hps ⊢
  have lb := bw_len f n (n + 6) n 0 0
  have bb := bw_bits f n (n + 6) n 0 0
  have hnum := num_lt bb
  rw [lb] at hnum
  obtain ⟨q, hq⟩ : ∃ q, num (bw f n (n + 6) n 0 0) = q := ⟨_, rfl⟩
  rw [hq] at hnum
  have eb : bitsOf n q = bw f n (n + 6) n 0 0 := num_inj (by rw [bitsOf_len, lb]) (bitsOf_bits _ _) bb (by rw [num_bitsOf, hq, Nat.mod_eq_of_lt hnum])
  have hsq : scof Y n q = cv f n (n + 6) 0 0 := by rw [← hps, eb, b1]
  have hle := h6 q hnum
  have hge : scof Y n kb ≤ cv f n (n + 6) 0 0 := by rw [← hps]; exact a1 _ (bitsOf_len _ _) (bitsOf_bits _ _)
  have hsv : sv = cv f n (n + 6) 0 0 := by omega
  have hd := d1 (bitsOf n kb) (bitsOf_len _ _) (bitsOf_bits _ _) (by rw [hps]; omega)
  rw [num_bitsOf, Nat.mod_eq_of_lt h1, hq] at hd
  have hkb : kb = q := by
    rcases Nat.lt_or_ge q kb with hl | hl
    · have := h7 q hl
      omega
    · omega
  exact ⟨At, ct, h2, hsv, by rw [← eb, ← hkb]; exact h5⟩

theorem and1_is {x : Int} (h0 : 0 ≤ x) (h1 : x < 2 ^ 7) : Go.bits .and .i64 x 1 = x % 2 :=
  bits_mask .i64 7 (by decide) (fun n h0 h1 => by rw [IntKind.wrap_i64]; have : (2 : Int) ^ 7 = 128 := by decide
                                                  omega) 1 (by decide) x h0 h1
theorem shr_is {k i : Nat} (hk : k < 128) : Go.bits .and .i64 ((k : Int) / 2 ^ i) 1 = ((k / 2 ^ i % 2 : Nat) : Int) := by
  have e : (k : Int) / 2 ^ i = ((k / 2 ^ i : Nat) : Int) := by push_cast; rfl
  obtain ⟨m, hm⟩ : ∃ m, k / 2 ^ i = m := ⟨_, rfl⟩
  have hle : m < 128 := by rw [← hm]; exact Nat.lt_of_le_of_lt (Nat.div_le_self _ _) hk
  have h27 : (2 : Int) ^ 7 = 128 := by decide
  rw [e, hm, and1_is (by omega) (by omega)]
  omega
/-- The best score, and the list. -/
def bestS (Y : List Int) (n : Nat) : Int := cv (fun j => Y.getD j 0) n (n + 6) 0 0
def bestL (Y : List Int) (n : Nat) : List Nat := bw (fun j => Y.getD j 0) n (n + 6) n 0 0

end Go.Proofs.YtnejnnfjbhpigaaDoor.Vit

namespace Go.Proofs.YtnejnnfjbhpigaaDoor.Vit
open Go.RowKit Go.Proofs.YtnejnnfjbhpigaaDoorW.PrintWords Go.Proofs.YtnejnnfjbhpigaaDoorW.PrintLast Go.Proofs.YtnejnnfjbhpigaaDoorW.PrintMore Go.Proofs.YtnejnnfjbhpigaaDoor.Mem
attribute [local go_sem] max2_int min2_int max_two min_two max_three min_three max_four min_four   -- for this text's walks alone
set_option linter.unusedVariables false
set_option linter.unusedSimpArgs false

end Go.Proofs.YtnejnnfjbhpigaaDoor.Vit
