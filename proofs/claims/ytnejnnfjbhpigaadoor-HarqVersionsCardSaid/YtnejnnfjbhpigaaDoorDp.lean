/- The law HarqVersions: of all messages the versions are told, or that it is too long; each alone is read. Each theorem says its own conditions. -/
import Derived.Test.YtnejnnfjbhpigaaDoorDo
import Derived.Test.YtnejnnfjbhpigaaDoorCx
import Derived.Deep.RegionHeld3
namespace Go.Proofs.YtnejnnfjbhpigaaDoor.Vit
open Go.RowKit Go.Proofs.YtnejnnfjbhpigaaDoorW.PrintWords Go.Proofs.YtnejnnfjbhpigaaDoorW.PrintLast Go.Proofs.YtnejnnfjbhpigaaDoorW.PrintMore Go.Proofs.YtnejnnfjbhpigaaDoor.Mem Go.Proofs.YtnejnnfjbhpigaaDoor.Crc
attribute [local go_sem] max2_int min2_int max_two min_two max_three min_three max_four min_four   -- for this text's walks alone
set_option linter.unusedVariables false
set_option linter.unusedSimpArgs false

open Go.Proofs.YtnejnnfjbhpigaaDoor.Chk
theorem box4_off {W w' : World} {pb b sb N : Nat} {xs : List Int} {cs : Nat → Nat} {came : Nat} {done : Bool} (hI : IsP W pb b sb N xs cs came done) (hC : Chg (PS3 pb b sb) W w') {g : Nat} {r : Array Value} (hb : W.heap[g]? = some (.cells r 50 (0, 0))) : w'.heap[g]? = some (.cells r 50 (0, 0)) := by
  have h1 : g ≠ pb := blk_ne hb hI.blk (by decide)
  have h2 : g ≠ b := blk_ne hb hI.buf.blk (by decide)
  have h3 : g ≠ sb := blk_ne hb hI.buf.row (by decide)
  exact hC.keeps hb (fun h => h.elim h1 (fun h => h.elim h2 h3))
set_option maxHeartbeats 3200000 in
set_option maxRecDepth 100000 in
theorem versions_law (A : Option Addr) (n c : Nat) (l : List Int) (v : Int) (w : World) (hC : (Kd.int .u8).C w A n l) (hb : ∀ x ∈ l, 0 ≤ x ∧ x ≤ 255) (hc : n ≤ c) (hl : n ≤ 140737488355328) (ht : Taps w) :
    Calls Tryd.prog 7 #[.slice A n c, .int .i64 v] w fun e w' => e = .returned (.bool true) ∧ Below w.heap.size w w' := by
  obtain ⟨K, hK⟩ : ∃ K, min n 70 = K := ⟨_, rfl⟩
  have hmin : (if (70 : Int) < (n : Int) then (70 : Int) else (n : Int)) = (K : Int) := by split <;> omega
  have hKc : (K : Int) ≤ (c : Int) := by omega
  have hK70 : K ≤ 70 := by omega
  obtain ⟨m, hm⟩ : ∃ m, (l.take K).map Int.toNat = m := ⟨_, rfl⟩
  have hi : ints m = l.take K := by rw [← hm]; exact nats_ints (fun x hx => (hb x (List.mem_of_mem_take hx)).1)
  have hln := Kd.C_len hC
  have hml : m.length = K := by rw [← hm, List.length_map, List.length_take]; omega
  have hmb : ∀ x ∈ m, x < 256 := by rw [← hm]; exact nats_lt (fun x hx => hb x (List.mem_of_mem_take hx))
  have hCm := head_row hC (show K ≤ n by omega)
  rw [← hi] at hCm
  obtain ⟨k, hk, hk4⟩ := mod_in v 4 (by omega) (by omega)
  simp only [Int.cast_ofNat_Int, Int.ofNat_eq_natCast] at hk
  have HK := Aside0.mk hk
  have HC := Aside0.mk (And.intro hCm (And.intro hml (And.intro hmb ht)))
  clear hK hm hi hln hml hmb hCm hC hb ht hk
  go_enter Tryd.func7, Tryd.ntmps7
  go_upto_region 2 with (at_builtin; refine Kd.R_append_rows (Kd.int .u8) (w0 := w) w.heap.size rfl _ _ _ _ (.int .u8 0) 1 rfl Tryd.underlying22 info5 rfl (by decide) (by decide) (.slice (some ⟨w.heap.size, 0, none⟩) 0 0) [] (ints m) A K c (fun k => w.heap.size ≤ k) (fun _ => False) rfl rfl (Kd.R_of_own (World.ownsRow_made w #[] 0 (Nat.le_refl _) (Nat.zero_le _) rfl) (fun k hk => by simp [Value.ownBlock] at hk; omega)) (Kd.C_below HC.out.1 (below_alloc (Below.refl _ _) _)) (fun x cs h => h) (fun _ hk => hk.elim) (fun k hk => by simp at hk; omega) (below_alloc (Below.refl _ _) _) (by simp) (by simp; omega) ?_; intro v1 w1 hR1 hB1 hG1 hat1; have H1 := Aside0.mk (And.intro hR1 hB1); clear hR1 hB1 hG1 hat1)
  have hl1 : ([] ++ ints m).length = K := by rw [List.nil_append, ints_len, HC.out.2.1]
  have hR1 := H1.out.1
  rw [List.nil_append] at hR1 hl1
  obtain ⟨A1, c1, rfl, hc1, hC1⟩ := Kd.R_reads hR1
  rw [hl1] at hc1 hC1 hR1 ⊢
  have hrd := fun W (hW : Below w.heap.size w W) => reads_any W (HC.out.2.2.2.below hW)
  have HA := Aside0.mk (And.intro hR1 (And.intro hC1 (And.intro H1.out.2 hrd)))
  clear hR1 hC1 hl1 hrd H1 hmin hKc
  by_cases h64 : 64 < K
  · have h64i : (64 : Int) < (K : Int) := by omega
    have h64n : ¬ (K : Int) ≤ 64 := by omega
    have d64 : decide ((K : Int) ≤ 64) = false := decide_eq_false h64n
    have d64' : decide (K ≤ 64) = false := decide_eq_false (by omega)
    go_wp2_with fail
    refine (Versions_long A1 K c1 w1 h64).mono ?_
    rintro e w2 ⟨rfl, hB2⟩
    have hBa : Below w2.heap.size w2 (w2.alloc (.cells nil4 50)) := below_alloc (Below.refl _ _) _
    have hB02 := HA.out.2.2.1.trans (hB2.mono HA.out.2.2.1.size)
    have hB0a := hB02.trans (hBa.mono hB02.size)
    have hbx : (w2.alloc (.cells nil4 50)).heap[w2.heap.size]? = some (.cells nil4 50 (0, 0)) := heap_alloc_new w2 _
    have H2 := Aside0.mk (And.intro hB0a hbx)
    clear hB2 hBa hB02 hB0a hbx
    go_wp2_with fail
    refine (HA.out.2.2.2 _ H2.out.1).mono ?_
    rintro e w3 ⟨rfl, hB3⟩
    have M0 : w3.cell? ⟨w2.heap.size, 0, none⟩ = some (.slice none 0 0) := blk_cell (below_cell_blk hB3 H2.out.2) 0
    have H3 := Aside0.mk (H2.out.1.trans (hB3.mono H2.out.1.size))
    clear hB3
    go_wp2_with fail
    go_ret
    exact ⟨rfl, H3.out⟩
  · have h64i : ¬ (64 : Int) < (K : Int) := by omega
    have h64n : (K : Int) ≤ 64 := by omega
    have hKn : K ≤ 64 := by omega
    have d64 : decide ((K : Int) ≤ 64) = true := decide_eq_true h64n
    have d64' : decide (K ≤ 64) = true := decide_eq_true hKn
    have hvs := Versions_any m HC.out.2.2.1 A1 K c1 w1 HC.out.2.1 HA.out.2.1 hKn (HC.out.2.2.2.below HA.out.2.2.1)
    have HV := Aside0.mk hvs
    clear hvs
    go_wp2_with fail
    refine HV.out.mono ?_
    rintro e w2 ⟨s, rfl, hrow, hB2⟩
    obtain ⟨A0, d0, e0, _, _⟩ := Kd.R_reads (hrow 0 (by decide))
    obtain ⟨A1', d1, e1, _, _⟩ := Kd.R_reads (hrow 1 (by decide))
    obtain ⟨A2, d2, e2, _, _⟩ := Kd.R_reads (hrow 2 (by decide))
    obtain ⟨A3, d3, e3, _, _⟩ := Kd.R_reads (hrow 3 (by decide))
    generalize (ints (verL m 0)).length = l0 at e0
    generalize (ints (verL m 1)).length = l1 at e1
    generalize (ints (verL m 2)).length = l2 at e2
    generalize (ints (verL m 3)).length = l3 at e3
    have hB02 := HA.out.2.2.1.trans (hB2.mono HA.out.2.2.1.size)
    obtain ⟨lb, hlb⟩ : ∃ lb, w2.heap.size = lb := ⟨_, rfl⟩
    have hbx : (w2.alloc (.cells (fourS s) 50)).heap[lb]? = some (.cells (fourS s) 50 (0, 0)) := by rw [← hlb]; exact heap_alloc_new w2 _
    have hBa : Below w2.heap.size w2 (w2.alloc (.cells (fourS s) 50)) := below_alloc (Below.refl _ _) _
    obtain ⟨Wl, hWl⟩ : ∃ Wl, w2.alloc (.cells (fourS s) 50) = Wl := ⟨_, rfl⟩
    rw [hWl] at hbx hBa
    have hwl2 : w2.alloc (.cells #[.slice A0 l0 d0, .slice A1' l1 d1, .slice A2 l2 d2, .slice A3 l3 d3] 50) = Wl := by rw [← hWl, ← e0, ← e1, ← e2, ← e3]
    have HL := Aside0.mk (And.intro hbx (And.intro (fun j hj => Kd.R_below (hrow j hj) hBa) (And.intro (hB02.trans (hBa.mono hB02.size)) (hB2.trans (hBa.mono hB2.size)))))
    rw [e0, e1, e2, e3]
    clear hrow hB2 hB02 hbx hBa hWl e0 e1 e2 e3
    go_wp2_with fail
    clear hwl2 hlb
    refine (HA.out.2.2.2 _ HL.out.2.2.1).mono ?_
    rintro e w3 ⟨rfl, hB3⟩
    have hL3 : w3.heap[lb]? = some (.cells (fourS s) 50 (0, 0)) := below_cell_blk hB3 HL.out.1
    have H3 := Aside0.mk (And.intro hL3 (And.intro (fun j hj => Kd.R_below (HL.out.2.1 j hj) hB3) (And.intro (HL.out.2.2.1.trans (hB3.mono HL.out.2.2.1.size)) (Kd.R_below (Kd.R_below HA.out.1 HL.out.2.2.2) hB3))))
    have HW3 := Aside0.mk hB3
    clear hL3 hB3
    go_wp2_with fail
    go_loopw [7] (fun x wr => ∃ j : Nat, x = .int .i64 j ∧ j ≤ 4 ∧ Below w3.heap.size w3 wr) (fun x _ => 4 - (intOf x).toNat)
    case atStart => exact ⟨0, rfl, Nat.zero_le _, Below.refl _ _⟩
    case round =>
      obtain ⟨j, rfl, hj4, hB⟩ := hrel
      by_cases hj : j < 4
      · have hji : (j : Int) < 4 := by omega
        have hBw := H3.out.2.2.1.trans (hB.mono H3.out.2.2.1.size)
        obtain ⟨Aj, cj, ej, _, hCj⟩ := Kd.R_reads (H3.out.2.1 j hj)
        obtain ⟨Lj, hLj⟩ : ∃ Lj, (ints (verL m j)).length = Lj := ⟨_, rfl⟩
        obtain ⟨S, hS⟩ : ∃ S, strOfNums (ints (verL m j)) = S := ⟨_, rfl⟩
        rw [hLj] at ej hCj
        have hbx := below_cell_blk hB H3.out.1
        have hSS : ∀ w', Below wr.heap.size wr w' → w'.cell? ⟨lb, j, none⟩ = some (.slice Aj Lj cj) ∧ (convert 22 9 (.slice Aj Lj cj)).run Tryd.prog w' = .ok (.string S) w' := fun w' hW => by
          refine ⟨?_, ?_⟩
          · rw [← ej]
            exact (blk_cell (below_cell_blk hW hbx) j).trans (fourS_get s hj)
          · rw [← hS]
            exact Kd.C_string Tryd.underlying22 Tryd.underlying5 Tryd.underlying9 (Kd.C_below (Kd.C_below hCj hB) hW)
        have hver := fun W (hW : Below wr.heap.size wr W) => Version17_any m HC.out.2.2.1 A1 K c1 W HC.out.2.1 (Kd.C_below (Kd.C_below HA.out.2.1 (HL.out.2.2.2.trans (HW3.out.mono HL.out.2.2.2.size))) (hB.trans (hW.mono hB.size))) hKn j hj
        have HSS := Aside0.mk hSS
        have HV2 := Aside0.mk (And.intro hver (And.intro hB hS))
        obtain ⟨p1, p2⟩ := hSS wr (Below.refl _ _)
        obtain ⟨r1, r2⟩ := hSS wr.drew (pw_below_drewN (Below.refl _ _) 1)
        clear hSS hver hB hS hBw hCj ej hbx hLj
        go_upto_region 10 with fail
        go_region_held (fun w' => w'.cell? ⟨lb, j, none⟩ = some (.slice Aj Lj cj) ∧ (convert 22 9 (.slice Aj Lj cj)).run Tryd.prog w' = .ok (.string S) w') (first | exact HSS.out _ (by first | exact Below.refl _ _ | exact pw_below_drewN (Below.refl _ _) 1 | exact H5.out.2.1) | go_keep) (first
          | (go_at_call 13; refine (HV2.out.1 _ (by first | exact Below.refl _ _ | exact pw_below_drewN (Below.refl _ _) 1)).mono ?_; rintro e w5 ⟨u5, rfl, hR5, hB5⟩; obtain ⟨A5, c5, e5, _, hC5⟩ := Kd.R_reads hR5; subst e5; have k5 : (convert 22 9 (.slice A5 (ints (verL m j)).length c5)).run Tryd.prog w5 = .ok (.string S) w5 := (by rw [← HV2.out.2.2]; exact Kd.C_string Tryd.underlying22 Tryd.underlying5 Tryd.underlying9 hC5); have k5d : (convert 22 9 (.slice A5 (ints (verL m j)).length c5)).run Tryd.prog w5.drew = .ok (.string S) w5.drew := (by rw [← HV2.out.2.2]; exact Kd.C_string Tryd.underlying22 Tryd.underlying5 Tryd.underlying9 (Kd.C_below hC5 (pw_below_drewN (Below.refl _ _) 1))); have H5 := Aside0.mk (And.intro hR5 (And.intro (show Below wr.heap.size wr w5 by first | exact hB5 | exact (pw_below_drewN (Below.refl _ _) 1).trans hB5) trivial)); clear hR5 hB5 hC5))
        go_wp2
        exact ⟨⟨j + 1, by go_num, by omega, HV2.out.2.1.trans (H5.out.2.1.mono HV2.out.2.1.size)⟩, by simp only [intOf]; omega⟩
      · obtain rfl : j = 4 := by omega
        have hji : ¬ ((4 : Nat) : Int) < 4 := by omega
        have hk := HK.out
        have hB4 := hB
        have HB4 := Aside0.mk hB
        clear hB hB4
        go_wp2_with fail
        try rw [hk]
        clear hk
        have hnew := HNew_any K hKn wr
        have HN := Aside0.mk hnew
        clear hnew
        refine HN.out.mono ?_
        rintro e w5 ⟨rfl, hI5, hB5⟩
        have hB35 : Below w3.heap.size w3 w5 := HB4.out.trans (hB5.mono HB4.out.size)
        have hBw3 := H3.out.2.2.1
        have hBwr := hBw3.trans (HB4.out.mono hBw3.size)
        have hPr := (Proc.new (HC.out.2.2.2.below hBwr) hI5 hB5)
        obtain ⟨Ak, ck, ek, hck, hCk⟩ := Kd.R_reads (H3.out.2.1 k hk4)
        obtain ⟨L, hL⟩ : ∃ L, 8 * (K + 4) + 6 = L := ⟨_, rfl⟩
        have hLk : (ints (verL m k)).length = L := by rw [ints_len, verL_len, HC.out.2.1]; exact hL
        rw [hLk] at ek hck hCk
        have hR5 := Kd.R_below (H3.out.2.1 k hk4) hB35
        rw [ek] at hR5
        have hof := Offer_all _ _ _ K K 0 _ _ k hk4 (verL m k) (verL_bits m k) L hL (by rw [← ints_len]; exact hLk) Ak ck hck w5 hPr.is hKn hPr.in_ (Kd.C_below hCk hB35) (row_apart hPr.is hR5) hPr.taps hPr.zero
        have hw := hRes_whole m HC.out.2.2.1 (by rw [HC.out.2.1]; exact hKn) hk4 (verL m k)
        rw [HC.out.2.1] at hw
        unfold OffPost offX offS offN at hof
        rw [if_pos (show K = K ∧ (0 : Nat) < 16 from ⟨rfl, by decide⟩), hw, show hE (some m) = 0 from rfl] at hof
        have hbx5 := below_cell_blk hB35 H3.out.1
        have gc5 : w5.cell? ⟨lb, k, none⟩ = some (.slice Ak L ck) := by rw [← ek]; exact (blk_cell hbx5 k).trans (fourS_get s hk4)
        have hRm := Kd.R_below H3.out.2.2.2 hB35
        have hk4i : (k : Int) < 4 := by omega
        have HF := Aside0.mk (And.intro hof (And.intro hPr (And.intro hbx5 (And.intro ek (And.intro hRm (hBwr.trans (hB5.mono hBwr.size)))))))
        clear hof hPr hbx5 ek hRm hR5 hCk hck hLk hL hw hB35 hBw3 hBwr hB5 hI5
        go_wp2_with fail
        refine HF.out.1.mono ?_
        rintro e w6 ⟨u6, b6, sb6, rfl, hR6, hI6, hs6, hC6⟩
        have hl6 : (ints ((some m).getD [])).length = K := by rw [ints_len]; exact HC.out.2.1
        obtain ⟨A6, c6, e6, hc6, hCx⟩ := Kd.R_reads hR6
        rw [hl6] at e6 hCx
        subst e6
        have hbx6 := box4_off HF.out.2.1.is hC6 HF.out.2.2.1
        have gc6 : w6.cell? ⟨lb, k, none⟩ = some (.slice Ak L ck) := by rw [← HF.out.2.2.2.1]; exact (blk_cell hbx6 k).trans (fourS_get s hk4)
        obtain ⟨Am, cm, em, _, hCm⟩ := Kd.R_reads HF.out.2.2.2.2.1
        have hCm6 := C_chg hCm hC6 (by
          intro ad had
          injection em with em1 _ _
          exact row_apart HF.out.2.1.is HF.out.2.2.2.2.1 ad (em1.trans had))
        have hlm : (ints m).length = K := by rw [ints_len]; exact HC.out.2.1
        rw [hlm] at em hCm6
        have hBf : Below w.heap.size w w6 := HF.out.2.1.keeps (by have h1 := H3.out.2.2.1.size; have h2 := HB4.out.size; omega) hC6 HF.out.2.2.2.2.2 (Nat.le_refl _)
        obtain ⟨S, hS⟩ : ∃ S, strOfNums (ints m) = S := ⟨_, rfl⟩
        have hSS : ∀ w', Below w6.heap.size w6 w' → (convert 22 9 (.slice A6 K c6)).run Tryd.prog w' = .ok (.string S) w' ∧ (convert 22 9 (.slice A1 K c1)).run Tryd.prog w' = .ok (.string S) w' := fun w' hW => by
          refine ⟨?_, ?_⟩
          · rw [← hS]
            exact Kd.C_string Tryd.underlying22 Tryd.underlying5 Tryd.underlying9 (Kd.C_below hCx hW)
          · rw [← hS, em]
            exact Kd.C_string Tryd.underlying22 Tryd.underlying5 Tryd.underlying9 (Kd.C_below hCm6 hW)
        have HI := Aside0.mk (And.intro hI6 (And.intro hBf hSS))
        obtain ⟨p1, p2⟩ := hSS w6 (Below.refl _ _)
        obtain ⟨r1, r2⟩ := hSS w6.drew (pw_below_drewN (Below.refl _ _) 1)
        clear hR6 hI6 hs6 hC6 hc6 hCx hbx6 hCm hCm6 hlm hBf hS hSS em hl6 gc5
        go_wp2_with (go_at_call 10; refine (Offer_old _ _ _ _ _ _ _ _ _ _ _ HI.out.1).mono ?_; rintro e w' ⟨rfl, rfl⟩)
        go_ret
        exact ⟨rfl, HI.out.2.1⟩
end Go.Proofs.YtnejnnfjbhpigaaDoor.Vit
