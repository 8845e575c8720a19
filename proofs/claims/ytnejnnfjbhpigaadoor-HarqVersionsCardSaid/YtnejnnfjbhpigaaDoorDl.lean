/- conv.Code: the bits of a list, ended. Each theorem says its own conditions. -/
import Derived.Test.YtnejnnfjbhpigaaDoorCs
namespace Go.Proofs.YtnejnnfjbhpigaaDoor.Vit
open Go.RowKit Go.Proofs.YtnejnnfjbhpigaaDoorW.PrintWords Go.Proofs.YtnejnnfjbhpigaaDoorW.PrintLast Go.Proofs.YtnejnnfjbhpigaaDoorW.PrintMore Go.Proofs.YtnejnnfjbhpigaaDoor.Mem Go.Proofs.YtnejnnfjbhpigaaDoor.Crc
attribute [local go_sem] max2_int min2_int max_two min_two max_three min_three max_four min_four   -- for this text's walks alone
set_option linter.unusedVariables false
set_option linter.unusedSimpArgs false

open Go.Proofs.YtnejnnfjbhpigaaDoor.Chk
theorem pcode_take : ∀ (l : List Nat) (s t : Nat), t < l.length → (pcode s l).take (4 * (t + 1)) = (pcode s l).take (4 * t) ++ [ob (stA s l t + 64 * l.getD t 0) 0, ob (stA s l t + 64 * l.getD t 0) 1, ob (stA s l t + 64 * l.getD t 0) 2, ob (stA s l t + 64 * l.getD t 0) 3]
  | [], _, _, h => by simp at h
  | b :: l, s, 0, _ => by simp [pcode, stA]
  | b :: l, s, t + 1, h => by
    have ih := pcode_take l ((s + 64 * b) / 2) t (by simp at h; omega)
    rw [show 4 * (t + 1 + 1) = 4 * (t + 1) + 1 + 1 + 1 + 1 by omega, show 4 * (t + 1) = 4 * t + 1 + 1 + 1 + 1 by omega]
    rw [show 4 * (t + 1) = 4 * t + 1 + 1 + 1 + 1 by omega] at ih
    simpa [pcode, stA, List.take_succ_cons] using ih
theorem stA_lt : ∀ (l : List Nat), Bits l → ∀ (s t : Nat), s < 64 → stA s l t < 64
  | _, _, s, 0, h => by simpa [stA] using h
  | [], _, s, t + 1, h => by simpa [stA] using h
  | b :: l, hb, s, t + 1, h => by
    have h1 := hb b List.mem_cons_self
    simpa [stA] using stA_lt l hb.tail ((s + 64 * b) / 2) t (by omega)
def four8 (x : Nat) : List Nat := [ob x 0, ob x 1, ob x 2, ob x 3]
set_option maxHeartbeats 3200000 in
set_option maxRecDepth 100000 in
theorem CCode_any (m : List Nat) (hm : Bits m) (A : Option Addr) (n c : Nat) (w : World) (hn : m.length = n) (hC : (Kd.int .u8).C w A n (ints m)) (hc : n ≤ c) (hl : n ≤ 10000) (ht : Taps w) :
    Calls Tryd.prog 71 #[.slice A n c] w fun e w' => ∃ u, e = .returned (.tuple #[u, .int .i64 0]) ∧ (Kd.int .u8).R 5 w' w.heap.size (fun _ => True) u (ints (code m)) ∧ Below w.heap.size w w' := by
  have hbr := BRight_any (ints m) A n c w hC hc (by omega)
  rw [bits_right hm] at hbr
  have hst := fun W => Steps_any n (by omega) W
  have HC := Aside0.mk (And.intro hC (And.intro hn (And.intro hm ht)))
  have HB := Aside0.mk (And.intro hbr hst)
  clear hC hn hm ht hbr hst hc
  go_enter Tryd.func71, Tryd.ntmps71
  go_wp2_with (first
    | (go_at_call 48; refine HB.out.1.mono ?_; rintro e w1 ⟨rfl, q1, hw1⟩; have H1 := Aside0.mk (show Below w.heap.size w w1 by rw [hw1]; exact pw_below_drewN (Below.refl _ _) q1); clear hw1)
    | (go_at_call 77; refine (HB.out.2 _).mono ?_; rintro e w' ⟨rfl, rfl⟩))
  have hlz : (m ++ zs 6).length = n + 6 := by rw [List.length_append, zs_len, HC.out.2.1]
  have hbz : Bits (m ++ zs 6) := HC.out.2.2.1.append (zs_bits 6)
  have HZ := Aside0.mk (And.intro hlz hbz)
  clear hlz hbz
  go_loopw [4, 5, 21] (fun x4 x5 x21 wr => ∃ t : Nat, x21 = .int .i64 t ∧ t ≤ n + 6 ∧ x5 = .int .i64 (stA 0 (m ++ zs 6) t : Nat) ∧ (Kd.int .u8).R 5 wr w.heap.size (fun _ => True) x4 (ints ((code m).take (4 * t))) ∧ Below w.heap.size w wr) (fun _ _ x21 _ => n + 6 - (intOf x21).toNat)
  case atStart => exact ⟨0, rfl, Nat.zero_le _, rfl, by simp only [Nat.mul_zero, List.take_zero]; exact Kd.R_nil _ _ _ _ _, H1.out⟩
  case round =>
    obtain ⟨t, rfl, ht6, rfl, hR, hB⟩ := hrel
    have hs64 := stA_lt (m ++ zs 6) HZ.out.2 0 t (by omega)
    obtain ⟨s, hs⟩ : ∃ s, stA 0 (m ++ zs 6) t = s := ⟨_, rfl⟩
    by_cases h1 : t < n + 6
    · have h1' : (t : Int) < ((n + 6 : Nat) : Int) := by omega
      have h1'' : (t : Int) < (n : Int) + 6 := by omega
      have htk := pcode_take (m ++ zs 6) 0 t (by rw [HZ.out.1]; exact h1)
      have hsn := stA_next (m ++ zs 6) 0 t (by rw [HZ.out.1]; exact h1)
      have hb2 : (m ++ zs 6).getD t 0 < 2 := Nat.lt_succ_of_le (getD_bit HZ.out.2 t)
      obtain ⟨b, hb⟩ : ∃ b, (m ++ zs 6).getD t 0 = b := ⟨_, rfl⟩
      rw [hs, hb] at htk hsn
      rw [hs] at hs64 ⊢
      rw [hb] at hb2
      by_cases h2 : t < n
      · have h2' : (t : Int) < (n : Int) := by omega
        obtain ⟨ad, hA, hcell⟩ := Kd.at_int (Kd.C_below HC.out.1 hB) (t : Int) (by omega) h2'
        cases hA
        have hib : t < m.length := by have := HC.out.2.1; omega
        have hmb : m[t] = b := by
          rw [← hb, List.getD_eq_getElem?_getD, List.getElem?_append_left hib, List.getElem?_eq_getElem hib]
          rfl
        rw [rd_ints hib, hmb, Int.toNat_natCast] at hcell
        clear hmb hib hs hb
        have HS := Aside0.mk (And.intro hR (And.intro hB (And.intro htk hsn)))
        have hx : s + 64 * b < 128 := by omega
        have hout := fun W hW => out_any (s + 64 * b) hx W (HC.out.2.2.2.below (hB.trans hW))
        have HO := Aside0.mk hout
        clear hR hB htk hsn hout
        go_wp2_with (first
          | (go_at_call 90; refine (word_any s b hs64 hb2 _).mono ?_; rintro e w' ⟨rfl, rfl⟩))
        refine (HO.out _ (Below.refl _ _)).mono ?_
        rintro e w2 ⟨rfl, hB2⟩
        have hbk : (w2.alloc (.cells #[.int .u8 (ob (s + 64 * b) 0 : Nat), .int .u8 (ob (s + 64 * b) 1 : Nat), .int .u8 (ob (s + 64 * b) 2 : Nat), .int .u8 (ob (s + 64 * b) 3 : Nat)] 67)).heap[w2.heap.size]? = some (.cells #[.int .u8 (ob (s + 64 * b) 0 : Nat), .int .u8 (ob (s + 64 * b) 1 : Nat), .int .u8 (ob (s + 64 * b) 2 : Nat), .int .u8 (ob (s + 64 * b) 3 : Nat)] 67 (0, 0)) := heap_alloc_new w2 _
        obtain ⟨W3, hW3⟩ : ∃ W3, w2.alloc (.cells #[.int .u8 (ob (s + 64 * b) 0 : Nat), .int .u8 (ob (s + 64 * b) 1 : Nat), .int .u8 (ob (s + 64 * b) 2 : Nat), .int .u8 (ob (s + 64 * b) 3 : Nat)] 67) = W3 := ⟨_, rfl⟩
        have hB23 : Below w2.heap.size w2 W3 := by rw [← hW3]; exact below_alloc (Below.refl _ _) _
        rw [hW3] at hbk
        have hBr3 : Below wr.heap.size wr W3 := hB2.trans (hB23.mono hB2.size)
        have hB03 := HS.out.2.1.trans (hBr3.mono HS.out.2.1.size)
        have hC3 : (Kd.int .u8).C W3 (some ⟨w2.heap.size, 0, none⟩) 4 (ints (four8 (s + 64 * b))) := C_block (k := .u8) (ints (four8 (s + 64 * b))) (by simp [four8, ints]) hbk
        have hR3 := Kd.R_below HS.out.1 hBr3
        have H3 := Aside0.mk (And.intro hR3 (And.intro hC3 (And.intro hB03 hbk)))
        clear hR3 hC3 hB03 hbk hB2 hB23 hBr3
        go_wp2_with (at_builtin; refine Kd.R_append_rows (Kd.int .u8) (w0 := w) w.heap.size rfl _ _ _ _ (.int .u8 0) 1 rfl Tryd.underlying22 info5 rfl (by decide) (by decide) u4 (ints ((code m).take (4 * t))) (ints (four8 (s + 64 * b))) (some ⟨w2.heap.size, 0, none⟩) 4 4 (fun _ => True) (fun _ => False) rfl rfl H3.out.1 H3.out.2.1 (fun x cs h => h) (fun _ hk => hk.elim) (fun k hk => trivial) H3.out.2.2.1 H3.out.2.2.1.size (by rw [ints_len, List.length_take]; omega) ?_; intro v1 w7 hR7 hB7 hG7 hat7; have H7 := Aside0.mk (And.intro hR7 hB7); clear hR7 hB7 hG7 hat7)
        refine ⟨⟨t + 1, by go_num, by omega, ?_, ?_, H7.out.2⟩, by simp only [intOf]; omega⟩
        · rw [HS.out.2.2.2]
          exact congrArg (Value.int IntKind.i64) (by push_cast; omega)
        · have h := H7.out.1
          rw [← ints_append] at h
          unfold code at h ⊢
          rw [HS.out.2.2.1]
          exact h
      · have h2' : ¬ (t : Int) < (n : Int) := by omega
        have hb0 : b = 0 := by
          rw [← hb, List.getD_eq_getElem?_getD, List.getElem?_append_right (by have := HC.out.2.1; omega)]
          unfold zs
          rw [List.getElem?_replicate]
          split <;> rfl
        subst hb0
        clear hs hb
        simp only [Nat.mul_zero, Nat.add_zero] at htk hsn
        have HS := Aside0.mk (And.intro hR (And.intro hB (And.intro htk hsn)))
        have hx : s < 128 := by omega
        have hout := fun W hW => out_any s hx W (HC.out.2.2.2.below (hB.trans hW))
        have HO := Aside0.mk hout
        clear hR hB htk hsn hout
        go_wp2_with (first
          | (go_at_call 90; refine (word_any s 0 hs64 hb2 _).mono ?_; rintro e w' ⟨rfl, rfl⟩))
        refine (HO.out _ (Below.refl _ _)).mono ?_
        rintro e w2 ⟨rfl, hB2⟩
        have hbk : (w2.alloc (.cells #[.int .u8 (ob s 0 : Nat), .int .u8 (ob s 1 : Nat), .int .u8 (ob s 2 : Nat), .int .u8 (ob s 3 : Nat)] 67)).heap[w2.heap.size]? = some (.cells #[.int .u8 (ob s 0 : Nat), .int .u8 (ob s 1 : Nat), .int .u8 (ob s 2 : Nat), .int .u8 (ob s 3 : Nat)] 67 (0, 0)) := heap_alloc_new w2 _
        obtain ⟨W3, hW3⟩ : ∃ W3, w2.alloc (.cells #[.int .u8 (ob s 0 : Nat), .int .u8 (ob s 1 : Nat), .int .u8 (ob s 2 : Nat), .int .u8 (ob s 3 : Nat)] 67) = W3 := ⟨_, rfl⟩
        have hB23 : Below w2.heap.size w2 W3 := by rw [← hW3]; exact below_alloc (Below.refl _ _) _
        rw [hW3] at hbk
        have hBr3 : Below wr.heap.size wr W3 := hB2.trans (hB23.mono hB2.size)
        have hB03 := HS.out.2.1.trans (hBr3.mono HS.out.2.1.size)
        have hC3 : (Kd.int .u8).C W3 (some ⟨w2.heap.size, 0, none⟩) 4 (ints (four8 s)) := C_block (k := .u8) (ints (four8 s)) (by simp [four8, ints]) hbk
        have hR3 := Kd.R_below HS.out.1 hBr3
        have H3 := Aside0.mk (And.intro hR3 (And.intro hC3 (And.intro hB03 hbk)))
        clear hR3 hC3 hB03 hbk hB2 hB23 hBr3
        go_wp2_with (at_builtin; refine Kd.R_append_rows (Kd.int .u8) (w0 := w) w.heap.size rfl _ _ _ _ (.int .u8 0) 1 rfl Tryd.underlying22 info5 rfl (by decide) (by decide) u4 (ints ((code m).take (4 * t))) (ints (four8 s)) (some ⟨w2.heap.size, 0, none⟩) 4 4 (fun _ => True) (fun _ => False) rfl rfl H3.out.1 H3.out.2.1 (fun x cs h => h) (fun _ hk => hk.elim) (fun k hk => trivial) H3.out.2.2.1 H3.out.2.2.1.size (by rw [ints_len, List.length_take]; omega) ?_; intro v1 w7 hR7 hB7 hG7 hat7; have H7 := Aside0.mk (And.intro hR7 hB7); clear hR7 hB7 hG7 hat7)
        refine ⟨⟨t + 1, by go_num, by omega, ?_, ?_, H7.out.2⟩, by simp only [intOf]; omega⟩
        · rw [HS.out.2.2.2]
          exact congrArg (Value.int IntKind.i64) (by push_cast; omega)
        · have h := H7.out.1
          rw [← ints_append] at h
          unfold code at h ⊢
          rw [HS.out.2.2.1]
          exact h
    · obtain rfl : t = n + 6 := by omega
      have h1' : ¬ ((n + 6 : Nat) : Int) < ((n + 6 : Nat) : Int) := by omega
      have hcl : (code m).take (4 * (n + 6)) = code m := List.take_of_length_le (by rw [code_len, HC.out.2.1]; exact Nat.le_refl _)
      rw [hcl] at hR
      have HS := Aside0.mk (And.intro hR hB)
      clear hR hB
      go_wp2_with fail
      go_ret2
      exact ⟨_, rfl, HS.out.1, HS.out.2⟩
end Go.Proofs.YtnejnnfjbhpigaaDoor.Vit
