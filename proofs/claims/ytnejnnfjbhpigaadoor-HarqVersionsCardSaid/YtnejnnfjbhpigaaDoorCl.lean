/- A sum behind bytes: crc32.Open, and the document's Close and Open: each theorem says its own conditions. -/
import Derived.Test.YtnejnnfjbhpigaaDoorCi
namespace Go.Proofs.YtnejnnfjbhpigaaDoor.Vit
open Go.RowKit Go.Proofs.YtnejnnfjbhpigaaDoorW.PrintWords Go.Proofs.YtnejnnfjbhpigaaDoorW.PrintLast Go.Proofs.YtnejnnfjbhpigaaDoorW.PrintMore Go.Proofs.YtnejnnfjbhpigaaDoor.Mem Go.Proofs.YtnejnnfjbhpigaaDoor.Crc
attribute [local go_sem] max2_int min2_int max_two min_two max_three min_three max_four min_four   -- for this text's walks alone
set_option linter.unusedVariables false
set_option linter.unusedSimpArgs false

open Go.Proofs.YtnejnnfjbhpigaaDoor.Chk
theorem u8_inj {a b : Nat} (ha : a < 256) (hb : b < 256) (h : UInt8.ofNat a = UInt8.ofNat b) : a = b := by
  have := congrArg UInt8.toNat h
  simp at this
  omega
theorem str_inj : ∀ {a b : List Nat}, (∀ x ∈ a, x < 256) → (∀ x ∈ b, x < 256) → strOfNums (ints a) = strOfNums (ints b) → a = b := by
  intro a b ha hb h
  have h1 : (ints a).map (fun n => UInt8.ofNat n.toNat) = (ints b).map (fun n => UInt8.ofNat n.toNat) := by
    rw [← strOfNums_data, ← strOfNums_data, h]
  unfold ints at h1
  rw [List.map_map, List.map_map] at h1
  clear h
  induction a generalizing b with
  | nil =>
    cases b with
    | nil => rfl
    | cons y b => simp at h1
  | cons x a ih =>
    cases b with
    | nil => simp at h1
    | cons y b =>
      rw [List.map_cons, List.map_cons] at h1
      injection h1 with h2 h3
      have hxy : x = y := u8_inj (ha x List.mem_cons_self) (hb y List.mem_cons_self) (by simpa using h2)
      rw [hxy, ih (fun z hz => ha z (List.mem_cons_of_mem _ hz)) (fun z hz => hb z (List.mem_cons_of_mem _ hz)) h3]
theorem shr_byte {s k : Nat} : ((s : Int) / 2 ^ (8 * k)) = ((s / 256 ^ k : Nat) : Int) := by
  rw [show (2 : Int) ^ (8 * k) = ((2 ^ (8 * k) : Nat) : Int) by simp, Nat.pow_mul, show 2 ^ 8 = 256 by rfl]
  exact (Int.natCast_ediv _ _).symm
theorem addO (g o m : Nat) : (⟨g, o, none⟩ : Addr).add m = ⟨g, o + m, none⟩ := by unfold Addr.add; split <;> simp_all
set_option maxHeartbeats 3200000 in
set_option maxRecDepth 100000 in
theorem RClose_any (b : List Nat) (hb : ∀ x ∈ b, x < 256) (A : Option Addr) (n c : Nat) (w : World) (hn : b.length = n) (hC : (Kd.int .u8).C w A n (ints b)) (hl : n ≤ 10000) :
    Calls Tryd.prog 33 #[.slice A n c] w fun e w' => ∃ u, e = .returned u ∧ (Kd.int .u8).R 5 w' w.heap.size (fun k => w.heap.size ≤ k) u (ints (closeB b)) ∧ Below w.heap.size w w' := by
  have HC := Aside0.mk (And.intro hC (And.intro hn hb))
  have hs := Sumr_any b hb A n c w hn hC (by omega)
  have hs32 := sum_lt hb
  obtain ⟨S, hS⟩ : ∃ S, Crc.sum b = S := ⟨_, rfl⟩
  rw [hS] at hs hs32
  have HS := Aside0.mk (And.intro hS hs)
  clear hS hs hC hn hb
  go_enter Tryd.func33, Tryd.ntmps33
  go_wp2_with (first
    | (go_at_call 63; refine HS.out.2.mono ?_; rintro e w1 ⟨rfl, hB1⟩; have H1 := Aside0.mk hB1; clear hB1)
    | (at_builtin; refine Kd.R_append_rows (Kd.int .u8) (w0 := w) w.heap.size rfl _ _ _ _ (.int .u8 0) 1 rfl Tryd.underlying22 info5 rfl (by decide) (by decide) (.slice (some ⟨w1.heap.size, 0, none⟩) 0 0) [] (ints b) A n c (fun k => w.heap.size ≤ k) (fun _ => False) rfl rfl (Kd.R_of_own (World.ownsRow_made w1 #[] 0 (below_size H1.out) (Nat.zero_le _) rfl) (fun k hk => by have := below_size H1.out; simp [Value.ownBlock] at hk; omega)) (Kd.C_below HC.out.1 (below_alloc H1.out _)) (fun x cs h => h) (fun _ hk => hk.elim) (fun k hk => by have := below_size H1.out; simp at hk; omega) (below_alloc H1.out _) (by have := below_size H1.out; simp; omega) (by simp; omega) ?_; intro v1 w2 hR2 hB2 hG2 hat2; have H2 := Aside0.mk (And.intro hR2 hB2); clear hR2 hB2 hG2 hat2))
  go_loopw [4, 5] (fun x4 x5 wr => ∃ k : Nat, x5 = .int .i64 k ∧ k ≤ 4 ∧ (Kd.int .u8).R 5 wr w.heap.size (fun k => w.heap.size ≤ k) x4 (ints (b ++ sumL S k)) ∧ Below w.heap.size w wr) (fun _ x5 _ => 4 - (intOf x5).toNat)
  case atStart =>
    refine ⟨0, rfl, Nat.zero_le _, ?_, H2.out.2⟩
    have h := H2.out.1
    rw [List.nil_append] at h
    rw [show b ++ sumL S 0 = b by simp [sumL]]
    exact h
  case round =>
    obtain ⟨k, rfl, hk, hR, hB⟩ := hrel
    have HR := Aside0.mk (And.intro hR hB)
    clear hR hB
    by_cases hk4 : k < 4
    · have hlt : (k : Int) < 4 := by omega
      have hnx := sumL_next S k
      have hsh := shr_byte (s := S) (k := k)
      obtain ⟨q, hq⟩ : ∃ q, S / 256 ^ k = q := ⟨_, rfl⟩
      rw [hq] at hnx hsh
      obtain ⟨y, hy⟩ : ∃ y, q % 256 = y := ⟨_, rfl⟩
      rw [hy] at hnx
      have hw8 : IntKind.u8.wrap (q : Int) = (y : Int) := by rw [IntKind.wrap_u8]; omega
      have hw9 : (q : Int) % 256 = (y : Int) := by omega
      have h8k : (0 : Int) ≤ 8 * (k : Int) := by omega
      have h8t : (8 * (k : Int)).toNat = 8 * k := by omega
      have h8m : min (8 * k) 32 = 8 * k := by omega
      have HN := Aside0.mk hnx
      clear hnx hq hy
      go_wp2_with ((with_reducible refine gate_builtin (b := .append) (xs := #[.tmp 15, .tmp 21]) rfl ?_); at_builtin; refine Kd.R_append (Kd.int .u8) (w0 := w) w.heap.size rfl (.tmp 15) (.tmp 21) 22 5 (.int .u8 0) 1 rfl Tryd.underlying22 info5 rfl (by decide) (by omega) u4 (ints (b ++ sumL S k)) ((y : Int)) [.int .u8 y] (fun k => w.heap.size ≤ k) (fun _ => False) rfl rfl ?aP (fun _ hk => hk.elim) ?aF ?aO ?aB ?aS ?aL ?_; (case aP => exact rfl); (case aB => exact HR.out.2); (case aF => exact (fun k hk => Nat.le_trans (below_size HR.out.2) hk)); (case aO => exact HR.out.1); (case aS => exact below_size HR.out.2); (case aL => rw [ints_len, List.length_append, sumL_len]; have := HC.out.2.1; omega); intro v1 w7 ho hb7 hg hat; have HK := Aside0.mk (And.intro ho hb7); clear ho hb7 hg hat)
      refine ⟨⟨k + 1, by go_num, by omega, ?_, HK.out.2⟩, by simp only [intOf]; omega⟩
      rw [HN.out, ← List.append_assoc, ints_append]
      exact HK.out.1
    · have hge : ¬ (k : Int) < 4 := by omega
      obtain rfl : k = 4 := by omega
      go_wp2
      go_ret
      refine ⟨_, rfl, ?_, HR.out.2⟩
      unfold closeB
      rw [HS.out.1]
      exact HR.out.1
/-- What bytes with a sum behind are, if it is right. -/
def openB (b : List Nat) : Option (List Nat) := if b.length < 4 then none else if sumL (Crc.sum (b.take (b.length - 4))) 4 = b.drop (b.length - 4) then some (b.take (b.length - 4)) else none
theorem open_close (b : List Nat) : openB (closeB b) = some b := by
  unfold openB
  rw [closeB_len, if_neg (by omega), show b.length + 4 - 4 = b.length by omega]
  unfold closeB
  rw [List.take_left, List.drop_left, if_pos rfl]
theorem openB_short {b : List Nat} (h : b.length < 4) : openB b = none := by unfold openB; rw [if_pos h]
theorem openB_yes {b : List Nat} {m : Nat} (h : b.length = m + 4) (he : sumL (Crc.sum (b.take m)) 4 = b.drop m) : openB b = some (b.take m) := by
  unfold openB
  rw [if_neg (by omega), show b.length - 4 = m by omega, if_pos he]
theorem openB_no {b : List Nat} {m : Nat} (h : b.length = m + 4) (he : ¬ sumL (Crc.sum (b.take m)) 4 = b.drop m) : openB b = none := by
  unfold openB
  rw [if_neg (by omega), show b.length - 4 = m by omega, if_neg he]
theorem take_lt {b : List Nat} (hb : ∀ x ∈ b, x < 256) (m : Nat) : ∀ x ∈ b.take m, x < 256 := fun x hx => hb x (List.mem_of_mem_take hx)
theorem ints_take (b : List Nat) (m : Nat) : (ints b).take m = ints (b.take m) := by unfold ints; rw [List.map_take]
theorem ints_drop (b : List Nat) (m : Nat) : (ints b).drop m = ints (b.drop m) := by unfold ints; rw [List.map_drop]
theorem C_part {w : World} {g o n m : Nat} {b : List Nat} (hC : (Kd.int .u8).C w (some ⟨g, o, none⟩) n (ints b)) (hn : b.length = n) (hm : m ≤ n) : (Kd.int .u8).C w (some ⟨g, o, none⟩) m (ints (b.take m)) := by
  have hl : (ints b).length = n := by rw [ints_len]; exact hn
  rw [← hl] at hC
  have := Kd.C_take hC (m := m) (by omega)
  rw [ints_take, ints_len, List.length_take, hn, Nat.min_eq_left hm] at this
  exact this
theorem C_rest {w : World} {g o n m : Nat} {b : List Nat} (hC : (Kd.int .u8).C w (some ⟨g, o, none⟩) n (ints b)) (hn : b.length = n) (hm : m < n) : (Kd.int .u8).C w (some ⟨g, o + m, none⟩) (n - m) (ints (b.drop m)) := by
  have hl : (ints b).length = n := by rw [ints_len]; exact hn
  rw [← hl] at hC
  have := Kd.C_drop (c := n) hC (m := m) (by omega) (by omega)
  rw [if_neg (by omega), ints_drop, ints_len, List.length_drop, hn] at this
  rw [Option.map_some, show m * (Kd.int .u8).sz = m from Nat.mul_one m, addO] at this
  exact this
set_option maxHeartbeats 3200000 in
set_option maxRecDepth 100000 in
theorem Open32_any (b : List Nat) (hb : ∀ x ∈ b, x < 256) (g o n c : Nat) (w : World) (hn : b.length = n) (hC : (Kd.int .u8).C w (some ⟨g, o, none⟩) n (ints b)) (hl : n ≤ 10000) (hc : n ≤ c) (m : Nat) (hm : n = m + 4) :
    Calls Tryd.prog 55 #[.slice (some ⟨g, o, none⟩) n c] w fun e w' => ∃ u, e = .returned (.tuple #[u, .bool (openB b).isSome]) ∧ (Kd.int .u8).R 5 w' w.heap.size (fun k => w.heap.size ≤ k) u (ints ((openB b).getD [])) ∧ Below w.heap.size w w' := by
  have hCt := C_part (m := m) hC hn (by omega)
  have hCd := C_rest (m := m) hC hn (by omega)
  rw [show n - m = 4 by omega] at hCd
  have htl : (b.take m).length = m := by rw [List.length_take]; omega
  have hdl : (b.drop m).length = 4 := by rw [List.length_drop]; omega
  have hs := fun (W : World) (hB : Below w.heap.size w W) => Sum32_any (b.take m) (take_lt hb m) (some ⟨g, o, none⟩) m c W htl (Kd.C_below hCt hB) (by omega)
  obtain ⟨S, hS⟩ : ∃ S, Crc.sum (b.take m) = S := ⟨_, rfl⟩
  have hS32 : S < 4294967296 := by rw [← hS]; exact sum_lt (take_lt hb m)
  rw [hS] at hs
  have hy := fun h : sumL S 4 = b.drop m => openB_yes (b := b) (m := m) (by omega) (by rw [hS]; exact h)
  have hno := fun h : ¬ sumL S 4 = b.drop m => openB_no (b := b) (m := m) (by omega) (by rw [hS]; exact h)
  have HC := Aside0.mk (And.intro hs (And.intro hCt (And.intro hCd (And.intro hdl (And.intro hS32 (And.intro hy hno))))))
  have hm4 : (n : Int) - 4 = (m : Int) := by omega
  have hmn : (m : Int) ≤ (n : Int) := by omega
  have hcm : ¬ c = m := by omega
  have hmc : (m : Int) ≤ (c : Int) := by omega
  have hmc2 : m ≤ c := by omega
  have hmb : (m : Int) ≤ 10000 := by omega
  have hm0 : (0 : Int) ≤ (m : Int) := by omega
  have hnm : n - m = 4 := by omega
  clear hC hs hCt hCd hdl hS32 hS htl hn hy hno hm
  go_enter Tryd.func55, Tryd.ntmps55
  by_cases heq : sumL S 4 = b.drop m
  · have HQ := Aside0.mk heq
    clear heq
    go_wp2_with fail
    go_region_held3 (fun _ => True) (trivial) (first
      | (go_at_call 70; refine (HC.out.1 _ (by first | exact Below.refl _ _ | exact pw_below_drewN (Below.refl _ _) 1)).mono ?_; rintro e w1 ⟨rfl, hB1⟩; have H1 := Aside0.mk (show Below w.heap.size w w1 from (pw_below_drewN (Below.refl _ _) 1).trans hB1); clear hB1)
      | (go_at_call 69; refine (bytes32_any S HC.out.2.2.2.2.1 _).mono ?_; rintro e w2 ⟨u2, rfl, hR2, hB2⟩; obtain ⟨A2, c2, rfl, _, hC2⟩ := Kd.R_reads hR2; rw [ints_len, sumL_len] at hC2 ⊢; have H2 := Aside0.mk (And.intro hC2 (H1.out.trans (hB2.mono H1.out.size))); clear hR2 hB2 hC2)
      | (go_at_call 82; refine (EqualB_any (sumL S 4) (b.drop m) A2 (some ⟨g, o + m, none⟩) 4 4 c2 _ w2 (sumL_len S 4) HC.out.2.2.2.1 H2.out.1 (Kd.C_below HC.out.2.2.1 H2.out.2) (by omega) (by omega)).mono ?_; rintro e w3 ⟨rfl, hB3⟩; rw [decide_eq_true HQ.out]; have H3 := Aside0.mk (H2.out.2.trans (hB3.mono H2.out.2.size)); clear hB3))
    have hcl := CloneB_any (ints (b.take m)) (some ⟨g, o, none⟩) m c w3 (Kd.C_below HC.out.2.1 H3.out) (by omega)
    have HCL := Aside0.mk hcl
    clear hcl
    go_wp2_with (go_at_call 60; refine HCL.out.mono ?_; rintro e w4 ⟨u4, rfl, hR4, hB4⟩; have H4 := Aside0.mk (And.intro hR4 (H3.out.trans (hB4.mono H3.out.size))); clear hR4 hB4)
    go_ret2
    refine ⟨_, by rw [HC.out.2.2.2.2.2.1 HQ.out]; rfl, ?_, H4.out.2⟩
    rw [HC.out.2.2.2.2.2.1 HQ.out]
    exact Kd.R_mono (Kd.R_lower H4.out.1 H3.out.size) (fun k hk => Nat.le_trans H3.out.size hk)
  · have HQ := Aside0.mk heq
    clear heq
    go_wp2_with fail
    go_region_held3 (fun _ => True) (trivial) (first
      | (go_at_call 70; refine (HC.out.1 _ (by first | exact Below.refl _ _ | exact pw_below_drewN (Below.refl _ _) 1)).mono ?_; rintro e w1 ⟨rfl, hB1⟩; have H1 := Aside0.mk (show Below w.heap.size w w1 from (pw_below_drewN (Below.refl _ _) 1).trans hB1); clear hB1)
      | (go_at_call 69; refine (bytes32_any S HC.out.2.2.2.2.1 _).mono ?_; rintro e w2 ⟨u2, rfl, hR2, hB2⟩; obtain ⟨A2, c2, rfl, _, hC2⟩ := Kd.R_reads hR2; rw [ints_len, sumL_len] at hC2 ⊢; have H2 := Aside0.mk (And.intro hC2 (H1.out.trans (hB2.mono H1.out.size))); clear hR2 hB2 hC2)
      | (go_at_call 82; refine (EqualB_any (sumL S 4) (b.drop m) A2 (some ⟨g, o + m, none⟩) 4 4 c2 _ w2 (sumL_len S 4) HC.out.2.2.2.1 H2.out.1 (Kd.C_below HC.out.2.2.1 H2.out.2) (by omega) (by omega)).mono ?_; rintro e w3 ⟨rfl, hB3⟩; rw [decide_eq_false HQ.out]; have H3 := Aside0.mk (H2.out.2.trans (hB3.mono H2.out.2.size)); clear hB3))
    go_wp2
    go_ret2
    refine ⟨_, by rw [HC.out.2.2.2.2.2.2 HQ.out]; rfl, ?_, H3.out⟩
    rw [HC.out.2.2.2.2.2.2 HQ.out]
    exact Kd.R_nil _ _ _ _ _
set_option maxHeartbeats 3200000 in
set_option maxRecDepth 100000 in
theorem Open32_short (b : List Nat) (A : Option Addr) (n c : Nat) (w : World) (hn : b.length = n) (hs : n < 4) :
    Calls Tryd.prog 55 #[.slice A n c] w fun e w' => e = .returned (.tuple #[.slice none 0 0, .bool false]) ∧ Below w.heap.size w w' := by
  have hm0 : (n : Int) - 4 < 0 := by omega
  have hlo : (-4 : Int) ≤ (n : Int) - 4 := by omega
  clear hn hs
  obtain ⟨m, hm⟩ : ∃ m : Int, (n : Int) - 4 = m := ⟨_, rfl⟩
  rw [hm] at hm0 hlo
  have hnb : (n : Int) < 1000 := by omega
  go_enter Tryd.func55, Tryd.ntmps55
  go_wp2_with fail
  go_quiet (fail)
  go_wp2
  go_ret2
  exact ⟨rfl, pw_below_drewN (Below.refl _ _) _⟩
/-- crc32.Open of a row of bytes. -/
theorem Open32_row (b : List Nat) (hb : ∀ x ∈ b, x < 256) (hl : b.length ≤ 10000) (v : Value) (w : World) (base : Nat) (ok : Nat → Prop) (hR : (Kd.int .u8).R 5 w base ok v (ints b)) :
    Calls Tryd.prog 55 #[v] w fun e w' => ∃ u, e = .returned (.tuple #[u, .bool (openB b).isSome]) ∧ (Kd.int .u8).R 5 w' w.heap.size (fun k => w.heap.size ≤ k) u (ints ((openB b).getD [])) ∧ Below w.heap.size w w' := by
  by_cases h4 : b.length < 4
  · obtain ⟨A, c, rfl⟩ := Kd.R_slice hR
    rw [ints_len]
    refine (Open32_short b A b.length c w rfl h4).mono ?_
    rintro e w' ⟨he, hB⟩
    rw [openB_short h4]
    exact ⟨_, he, Kd.R_nil _ _ _ _ _, hB⟩
  · obtain ⟨g, cap, rfl, _⟩ := Kd.R_form hR (by rw [ints_len]; omega)
    obtain ⟨A, c, he, hc, hC⟩ := Kd.R_reads hR
    cases he
    rw [ints_len] at hC hc ⊢
    exact Open32_any b hb g 0 b.length cap w rfl hC hl hc (b.length - 4) (by omega)
theorem str_ne {a b : ByteArray} (h : ¬ a = b) : (a.toList == b.toList) = false := by
  rw [beq_eq_false_iff_ne]
  intro he
  rw [ByteArray.toList_eq, ByteArray.toList_eq] at he
  exact h (ByteArray.ext (Array.toList_inj.1 he))
/-- What the document's Open hands back of a row. -/
def ropenV (b : List Nat) (g o m c : Nat) : Value := if (openB b).isSome then .tuple #[.slice (some ⟨g, o, none⟩) m c, .bool true] else .tuple #[.slice none 0 0, .bool false]
set_option maxHeartbeats 3200000 in
set_option maxRecDepth 100000 in
theorem ROpen_any (b : List Nat) (hb : ∀ x ∈ b, x < 256) (g o n c : Nat) (w : World) (hn : b.length = n) (hC : (Kd.int .u8).C w (some ⟨g, o, none⟩) n (ints b)) (hl : n ≤ 10000) (hc : n ≤ c) (m : Nat) (hm : n = m + 4) :
    Calls Tryd.prog 41 #[.slice (some ⟨g, o, none⟩) n c] w fun e w' => e = .returned (ropenV b g o m c) ∧ Below w.heap.size w w' := by
  have hCt := C_part (m := m) hC hn (by omega)
  have htl : (b.take m).length = m := by rw [List.length_take]; omega
  have hs := fun (W : World) (hB : Below w.heap.size w W) => RClose_any (b.take m) (take_lt hb m) (some ⟨g, o, none⟩) m c W htl (Kd.C_below hCt hB) (by omega)
  have hy := fun h : sumL (Crc.sum (b.take m)) 4 = b.drop m => openB_yes (b := b) (m := m) (by omega) h
  have hno := fun h : ¬ sumL (Crc.sum (b.take m)) 4 = b.drop m => openB_no (b := b) (m := m) (by omega) h
  have hclen : (closeB (b.take m)).length = n := by rw [closeB_len, htl]; omega
  have hcl : closeB (b.take m) = b ↔ sumL (Crc.sum (b.take m)) 4 = b.drop m := by
    unfold closeB
    constructor
    · intro h
      have h2 := congrArg (List.drop m) h
      have h3 : (b.take m ++ sumL (Crc.sum (b.take m)) 4).drop m = sumL (Crc.sum (b.take m)) 4 := by
        have h4 := List.drop_left (l₁ := b.take m) (l₂ := sumL (Crc.sum (b.take m)) 4)
        rw [htl] at h4
        exact h4
      rw [h3] at h2
      exact h2
    · intro h
      rw [h, List.take_append_drop]
  obtain ⟨T, hT⟩ : ∃ T, strOfNums (ints b) = T := ⟨_, rfl⟩
  obtain ⟨T2, hT2⟩ : ∃ T2, strOfNums (ints (closeB (b.take m))) = T2 := ⟨_, rfl⟩
  have hcv : ∀ W, Below w.heap.size w W → (convert 22 9 (.slice (some ⟨g, o, none⟩) n c)).run Tryd.prog W = .ok (.string T) W := fun W hB => by
    rw [← hT]
    exact Kd.C_string Tryd.underlying22 Tryd.underlying5 Tryd.underlying9 (Kd.C_below hC hB)
  have hTT : T2 = T ↔ sumL (Crc.sum (b.take m)) 4 = b.drop m := by
    rw [← hT, ← hT2, ← hcl]
    exact ⟨fun h => str_inj (closeB_lt (take_lt hb m)) hb h, fun h => by rw [h]⟩
  have HC := Aside0.mk (And.intro hs (And.intro hcv (And.intro hy (And.intro hno (And.intro hclen (And.intro hT2 hTT))))))
  obtain ⟨p1, p2⟩ := And.intro (hcv w (Below.refl _ _)) (hcv w.drew (pw_below_drewN (Below.refl _ _) 1))
  have hm4 : (n : Int) - 4 = (m : Int) := by omega
  have hn4 : ¬ (n : Int) < 4 := by omega
  have hcm : ¬ c = m := by omega
  have hmc : (m : Int) ≤ (c : Int) := by omega
  have hmc2 : m ≤ c := by omega
  have hmb : (m : Int) ≤ 10000 := by omega
  have hm0 : (0 : Int) ≤ (m : Int) := by omega
  have hws : IntKind.i64.wrap ((n : Int) - 4) = (m : Int) := by rw [IntWalk.i64_in _ (by omega)]; omega
  have hws2 : IntKind.i64.wrap (m : Int) = (m : Int) := IntWalk.i64_in _ (by omega)
  have hn4d : decide ((n : Int) < 4) = false := decide_eq_false hn4
  have hn4e : decide (n < 4) = false := decide_eq_false (by omega)
  clear hC hs hCt htl hn hy hno hm hclen hcl hcv hT hT2 hTT
  go_enter Tryd.func41, Tryd.ntmps41
  by_cases heq : T2 = T
  · subst heq
    go_wp2_with fail
    go_region_held (fun w' => (convert 22 9 (.slice (some ⟨g, o, none⟩) n c)).run Tryd.prog w' = .ok (.string T2) w') (first | exact HC.out.2.1 _ (by first | exact Below.refl _ _ | exact pw_below_drewN (Below.refl _ _) 1 | exact H1.out) | go_keep) (first
      | (go_at_call 33; refine (HC.out.1 _ (by first | exact Below.refl _ _ | exact pw_below_drewN (Below.refl _ _) 1)).mono ?_; rintro e w1 ⟨u1, rfl, hR1, hB1⟩; obtain ⟨A1, c1, e1, _, hC1⟩ := Kd.R_reads hR1; rw [ints_len, HC.out.2.2.2.2.1] at e1 hC1; subst e1; have H1 := Aside0.mk (show Below w.heap.size w w1 from (pw_below_drewN (Below.refl _ _) 1).trans hB1); have k1 : (convert 22 9 (.slice A1 n c1)).run Tryd.prog w1 = .ok (.string T2) w1 := (by rw [← HC.out.2.2.2.2.2.1]; exact Kd.C_string Tryd.underlying22 Tryd.underlying5 Tryd.underlying9 hC1); have k2 := HC.out.2.1 w1 H1.out; clear hR1 hB1 hC1))
    all_goals go_wp2
    all_goals go_ret2
    all_goals (refine ⟨?_, H1.out⟩; unfold ropenV; rw [HC.out.2.2.1 (HC.out.2.2.2.2.2.2.1 (by first | rfl | trivial))]; rfl)
  · have HQ := Aside0.mk heq
    have hb2 := str_ne heq
    clear heq
    go_wp2_with fail
    go_region_held (fun w' => (convert 22 9 (.slice (some ⟨g, o, none⟩) n c)).run Tryd.prog w' = .ok (.string T) w') (first | exact HC.out.2.1 _ (by first | exact Below.refl _ _ | exact pw_below_drewN (Below.refl _ _) 1 | exact H1.out) | go_keep) (first
      | (go_at_call 33; refine (HC.out.1 _ (by first | exact Below.refl _ _ | exact pw_below_drewN (Below.refl _ _) 1)).mono ?_; rintro e w1 ⟨u1, rfl, hR1, hB1⟩; obtain ⟨A1, c1, e1, _, hC1⟩ := Kd.R_reads hR1; rw [ints_len, HC.out.2.2.2.2.1] at e1 hC1; subst e1; have H1 := Aside0.mk (show Below w.heap.size w w1 from (pw_below_drewN (Below.refl _ _) 1).trans hB1); have k1 : (convert 22 9 (.slice A1 n c1)).run Tryd.prog w1 = .ok (.string T2) w1 := (by rw [← HC.out.2.2.2.2.2.1]; exact Kd.C_string Tryd.underlying22 Tryd.underlying5 Tryd.underlying9 hC1); have k2 := HC.out.2.1 w1 H1.out; clear hR1 hB1 hC1))
    all_goals go_wp2
    all_goals go_ret2
    all_goals (refine ⟨?_, H1.out⟩; unfold ropenV; rw [HC.out.2.2.2.1 (fun h => HQ.out (HC.out.2.2.2.2.2.2.2 h))]; rfl)
end Go.Proofs.YtnejnnfjbhpigaaDoor.Vit
