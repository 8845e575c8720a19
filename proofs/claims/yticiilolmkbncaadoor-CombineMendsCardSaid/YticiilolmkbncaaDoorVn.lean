/- Contracts of the document's coder (shuttleref06.Code): each theorem says its own conditions. -/
import Derived.Test.YticiilolmkbncaaDoorVm
namespace Go.Proofs.YticiilolmkbncaaDoor.Vit
open Go.RowKit Go.Proofs.YticiilolmkbncaaDoorW.PrintWords Go.Proofs.YticiilolmkbncaaDoorW.PrintLast Go.Proofs.YticiilolmkbncaaDoorW.PrintMore Go.Proofs.YticiilolmkbncaaDoor.Mem
attribute [local go_sem] max2_int min2_int max_two min_two max_three min_three max_four min_four   -- for this text's walks alone
set_option linter.unusedVariables false
set_option linter.unusedSimpArgs false

/-- The first bits of a list's code. -/
def cl (m : List Nat) (n : Nat) : List Nat := (List.range n).map fun t => bitv m (t / 4) (t % 4) 7
theorem cl_next (m : List Nat) (n : Nat) : cl m (n + 1) = cl m n ++ [bitv m (n / 4) (n % 4) 7] := by
  unfold cl
  rw [List.range_succ, List.map_append]
  rfl
theorem cl_len (m : List Nat) (n : Nat) : (cl m n).length = n := by simp [cl]
theorem ints_append (a b : List Nat) : ints (a ++ b) = ints a ++ ints b := by simp [ints]

set_option maxHeartbeats 3200000 in
theorem Code_cl (m : List Nat) (hm : Bits m) (A : Option Addr) (c : Nat) (w : World) (hC : (Kd.int .u8).C w A m.length (ints m)) (hc : m.length ≤ c) (hl : m.length ≤ 1099511627776) :
    Calls Tryd.prog 20 #[.slice A m.length c] w fun e w' =>
      ∃ v, e = .returned v ∧ (Kd.int .u8).R 5 w' w.heap.size (fun _ => True) v (ints (cl m (4 * (m.length + 6)))) ∧ Below w.heap.size w w' := by
  have HBit := Aside0.mk (fun i j W (hW : (Kd.int .u8).C W A m.length (ints m)) hi hj => Bit_any m hm A c i j W hW hc (by omega) hi hj)
  have HC := Aside0.mk hC
  clear hC hm
  go_enter Tryd.func20, Tryd.ntmps20
  go_wp2_with fail
  go_loopw [3, 4] (fun o s wr => ∃ i : Nat, s = .int .i64 i ∧ i ≤ m.length + 6 ∧ (Kd.int .u8).R 5 wr w.heap.size (fun _ => True) o (ints (cl m (4 * i))) ∧ Below w.heap.size w wr) (fun _ s _ => m.length + 6 - (intOf s).toNat)
  case atStart => exact ⟨0, rfl, by omega, Kd.R_nil _ _ _ _ _, Below.refl _ _⟩
  case round =>
    obtain ⟨i, rfl, hi, hR, hB⟩ := hrel
    have HR := Aside0.mk (And.intro hR hB)
    have hw1 : wrap64 ((m.length : Int) + 6) = (m.length : Int) + 6 := by unfold wrap64; omega
    clear hR hB
    by_cases hlt : i < m.length + 6
    · have hlt' : (i : Int) < (m.length : Int) + 6 := by omega
      go_upto_block 1 with fail
      go_cut [3, 5] (fun o _ wx => (Kd.int .u8).R 5 wx w.heap.size (fun _ => True) o (ints (cl m (4 * (i + 1)))) ∧ Below w.heap.size w wx)
      case first =>
        go_wp2_with fail
        go_loopw [3, 5] (fun o s w2 => ∃ j : Nat, s = .int .i64 j ∧ j ≤ 4 ∧ (Kd.int .u8).R 5 w2 w.heap.size (fun _ => True) o (ints (cl m (4 * i + j))) ∧ Below w.heap.size w w2) (fun _ s _ => 4 - (intOf s).toNat)
        case atStart => exact ⟨0, rfl, by omega, HR.out.1, HR.out.2⟩
        case round =>
          obtain ⟨j, rfl, hj, hR2, hB2⟩ := hrel
          have HR2 := Aside0.mk (And.intro hR2 hB2)
          clear hR2 hB2
          by_cases hj4 : j < 4
          · have hlj : (j : Int) < 4 := by omega
            obtain ⟨P, hP⟩ : ∃ P, bitv m i j 7 = P := ⟨_, rfl⟩
            have hbit := fun W hW => HBit.out i j W hW (by omega) hj4
            rw [hP] at hbit
            have HP := Aside0.mk (And.intro hP hbit)
            clear hP hbit
            go_wp2_with (first | (go_at_call 51; refine (HP.out.2 _ (Kd.C_below HC.out (by exact HR2.out.2))).mono ?_; rintro e w5 ⟨rfl, hB5⟩; have HB5 := Aside0.mk hB5; clear hB5) | ((with_reducible refine gate_builtin (b := .append) (xs := #[.tmp 17, .tmp 22]) rfl ?_); at_builtin; refine Kd.R_append (Kd.int .u8) (w0 := w) w.heap.size rfl (.tmp 17) (.tmp 22) 25 5 (.int .u8 0) 1 rfl Tryd.underlying25 info5 rfl (by decide) (by omega) u3 (ints (cl m (4 * i + j))) (P : Int) [.int .u8 P] (fun _ => True) (fun _ => False) rfl rfl ?aP (fun _ hk => hk.elim) ?aF ?aO ?aB ?aS ?aL ?_; (case aP => exact rfl); (case aB => exact HR2.out.2.trans (HB5.out.mono (below_size HR2.out.2))); (case aF => exact (fun _ _ => trivial)); (case aO => exact Kd.R_below HR2.out.1 HB5.out); (case aS => exact Nat.le_trans (below_size HR2.out.2) HB5.out.size); (case aL => rw [ints_len, cl_len]; omega); intro v1 w7 ho hb hg hat; have HN := Aside0.mk (And.intro ho hb); clear ho hb hg hat))
            refine ⟨⟨j + 1, by go_num, by omega, ?_, HN.out.2⟩, by simp only [intOf]; omega⟩
            have e : ints (cl m (4 * i + (j + 1))) = ints (cl m (4 * i + j)) ++ [(P : Int)] := by
              rw [← Nat.add_assoc, cl_next, ints_append, show (4 * i + j) / 4 = i by omega, show (4 * i + j) % 4 = j by omega, HP.out.1]
              rfl
            rw [e]
            exact HN.out.1
          · have hlj : ¬ (j : Int) < 4 := by omega
            obtain rfl : j = 4 := by omega
            go_wp2_with fail
            go_meet
            exact ⟨HR2.out.1, HR2.out.2⟩
      case rest =>
        obtain ⟨hR3, hB3⟩ := hcut
        have HR3 := Aside0.mk (And.intro hR3 hB3)
        clear hR3 hB3
        go_wp2_with fail
        exact ⟨⟨i + 1, by go_num, by omega, HR3.out.1, HR3.out.2⟩, by simp only [intOf]; omega⟩
    · have hlt' : ¬ (i : Int) < (m.length : Int) + 6 := by omega
      obtain rfl : i = m.length + 6 := by omega
      go_wp2_with fail
      go_ret
      exact ⟨_, rfl, HR.out.1, HR.out.2⟩

/-- Seven bits, by the taps. -/
def foldb (j : Nat) (g : Nat → Nat) : Nat → Nat
  | 0 => 0
  | k + 1 => (foldb j g k + tapT j k * g k) % 2
theorem bitv_fold (m : List Nat) (i j : Nat) : ∀ k, bitv m i j k = foldb j (bitAt m i) k
  | 0 => rfl
  | k + 1 => by unfold bitv foldb; rw [bitv_fold m i j k]
theorem foldb_congr (j : Nat) {g h : Nat → Nat} : ∀ n, (∀ k, k < n → g k = h k) → foldb j g n = foldb j h n
  | 0, _ => rfl
  | n + 1, e => by unfold foldb; rw [foldb_congr j n (fun k hk => e k (by omega)), e n (by omega)]
theorem fold_tab : (List.range 128).all (fun x => (List.range 4).all fun j => foldb j (fun k => x / 2 ^ (6 - k) % 2) 7 == ob x j) = true := by kernel_rfl
theorem fold_ob (x j : Nat) (hx : x < 128) (hj : j < 4) : foldb j (fun k => x / 2 ^ (6 - k) % 2) 7 = ob x j :=
  eq_of_beq (List.all_eq_true.1 (List.all_eq_true.1 fold_tab x (List.mem_range.2 hx)) j (List.mem_range.2 hj))
theorem bitAt_le {m : List Nat} (hm : Bits m) (i k : Nat) : bitAt m i k ≤ 1 := by
  unfold bitAt
  split
  · rw [List.getD_eq_getElem?_getD]
    by_cases h : i - k < m.length
    · rw [List.getElem?_eq_getElem h]
      exact hm _ (List.getElem_mem h)
    · rw [List.getElem?_eq_none (by omega)]
      exact Nat.zero_le _
  · exact Nat.zero_le _
theorem bitAt_next (m : List Nat) (i k : Nat) : bitAt m (i + 1) (k + 1) = bitAt m i k := by
  unfold bitAt
  by_cases h : k ≤ i
  · rw [if_pos h, if_pos (by omega), show i + 1 - (k + 1) = i - k by omega]
  · rw [if_neg h, if_neg (by omega)]
/-- The state ahead of a step. -/
def stt (m : List Nat) (i : Nat) : Nat := 32 * bitAt m i 1 + 16 * bitAt m i 2 + 8 * bitAt m i 3 + 4 * bitAt m i 4 + 2 * bitAt m i 5 + bitAt m i 6
theorem stt_zero (m : List Nat) : stt m 0 = 0 := by simp [stt, bitAt]
theorem stt_next {m : List Nat} (hm : Bits m) (i : Nat) : stt m (i + 1) = (stt m i + 64 * bitAt m i 0) / 2 := by
  unfold stt
  rw [bitAt_next m i 0, bitAt_next m i 1, bitAt_next m i 2, bitAt_next m i 3, bitAt_next m i 4, bitAt_next m i 5]
  have := bitAt_le hm i 6
  omega
theorem bitv_ob {m : List Nat} (hm : Bits m) (i j : Nat) (hj : j < 4) : bitv m i j 7 = ob (stt m i + 64 * bitAt m i 0) j := by
  have h0 := bitAt_le hm i 0
  have h1 := bitAt_le hm i 1
  have h2 := bitAt_le hm i 2
  have h3 := bitAt_le hm i 3
  have h4 := bitAt_le hm i 4
  have h5 := bitAt_le hm i 5
  have h6 := bitAt_le hm i 6
  rw [← fold_ob _ j (by unfold stt; omega) hj, bitv_fold]
  refine foldb_congr j 7 (fun k hk => ?_)
  unfold stt
  match k, hk with
  | 0, _ => show _ = _ / 64 % 2; omega
  | 1, _ => show _ = _ / 32 % 2; omega
  | 2, _ => show _ = _ / 16 % 2; omega
  | 3, _ => show _ = _ / 8 % 2; omega
  | 4, _ => show _ = _ / 4 % 2; omega
  | 5, _ => show _ = _ / 2 % 2; omega
  | 6, _ => show _ = _ / 1 % 2; omega
theorem getD_tail (m : List Nat) (r i : Nat) : (m ++ zs r).getD i 0 = m.getD i 0 := by
  rw [List.getD_eq_getElem?_getD, List.getD_eq_getElem?_getD, List.getElem?_append]
  split
  · rfl
  · rename_i h
    rw [List.getElem?_eq_none (l := m) (by omega)]
    unfold zs
    rw [List.getElem?_replicate]
    split <;> rfl
theorem cl_pcode {m : List Nat} (hm : Bits m) : ∀ i, i ≤ m.length + 6 → cl m (4 * i) ++ pcode (stt m i) ((m ++ zs 6).drop i) = pcode 0 (m ++ zs 6)
  | 0, _ => by rw [stt_zero]; rfl
  | i + 1, hi => by
    rw [← cl_pcode hm i (by omega), show 4 * (i + 1) = 4 * i + 1 + 1 + 1 + 1 by omega, cl_next, cl_next, cl_next, cl_next]
    have hlt : i < (m ++ zs 6).length := by rw [List.length_append, zs_len]; omega
    have hb : (m ++ zs 6)[i] = bitAt m i 0 := by
      unfold bitAt
      rw [if_pos (Nat.zero_le _), Nat.sub_zero, ← getD_tail m 6 i, List.getD_eq_getElem?_getD, List.getElem?_eq_getElem hlt]
      rfl
    rw [List.drop_eq_getElem_cons hlt, hb]
    simp only [pcode, List.append_assoc, List.cons_append, List.nil_append]
    rw [← stt_next hm, show 4 * i / 4 = i by omega, show 4 * i % 4 = 0 by omega, show (4 * i + 1) / 4 = i by omega, show (4 * i + 1) % 4 = 1 by omega, show (4 * i + 1 + 1) / 4 = i by omega, show (4 * i + 1 + 1) % 4 = 2 by omega, show (4 * i + 1 + 1 + 1) / 4 = i by omega, show (4 * i + 1 + 1 + 1) % 4 = 3 by omega,
      bitv_ob hm i 0 (by omega), bitv_ob hm i 1 (by omega), bitv_ob hm i 2 (by omega), bitv_ob hm i 3 (by omega)]
/-- The code of a list. -/
def code (m : List Nat) : List Nat := pcode 0 (m ++ zs 6)
theorem code_len (m : List Nat) : (code m).length = 4 * (m.length + 6) := by unfold code; rw [pcode_len, List.length_append, zs_len]
theorem code_bits (m : List Nat) : Bits (code m) := pcode_bits _ _
theorem Code_any (m : List Nat) (hm : Bits m) (A : Option Addr) (c : Nat) (w : World) (hC : (Kd.int .u8).C w A m.length (ints m)) (hc : m.length ≤ c) (hl : m.length ≤ 1099511627776) :
    Calls Tryd.prog 20 #[.slice A m.length c] w fun e w' =>
      ∃ v, e = .returned v ∧ (Kd.int .u8).R 5 w' w.heap.size (fun _ => True) v (ints (code m)) ∧ Below w.heap.size w w' := by
  have h := cl_pcode hm (m.length + 6) (Nat.le_refl _)
  rw [List.drop_eq_nil_of_le (by rw [List.length_append, zs_len]; exact Nat.le_refl _)] at h
  have e : cl m (4 * (m.length + 6)) = code m := by
    rw [← List.append_nil (cl m _)]
    exact h
  have k := Code_cl m hm A c w hC hc hl
  rw [e] at k
  exact k
end Go.Proofs.YticiilolmkbncaaDoor.Vit
