/- version.Split walked. Each theorem says its own conditions. -/
import Derived.Test.YtnejnnfjbhpigaaDoorDm
namespace Go.Proofs.YtnejnnfjbhpigaaDoor.Vit
open Go.RowKit Go.Proofs.YtnejnnfjbhpigaaDoorW.PrintWords Go.Proofs.YtnejnnfjbhpigaaDoorW.PrintLast Go.Proofs.YtnejnnfjbhpigaaDoorW.PrintMore Go.Proofs.YtnejnnfjbhpigaaDoor.Mem Go.Proofs.YtnejnnfjbhpigaaDoor.Crc
attribute [local go_sem] max2_int min2_int max_two min_two max_three min_three max_four min_four   -- for this text's walks alone
set_option linter.unusedVariables false
set_option linter.unusedSimpArgs false

open Go.Proofs.YtnejnnfjbhpigaaDoor.Chk
abbrev nil4 : Array Value := #[.slice none 0 0, .slice none 0 0, .slice none 0 0, .slice none 0 0]
theorem rem4 (i : Nat) : (i : Int).tmod 4 = ((i % 4 : Nat) : Int) := by rw [Int.tmod_eq_emod_of_nonneg (by omega)]; omega
theorem quo4 (i : Nat) : (i : Int).tdiv 4 = ((i / 4 : Nat) : Int) := by rw [Int.tdiv_eq_ediv_of_nonneg (by omega)]; omega
theorem rem4w (i : Nat) : wrap64 ((i % 4 : Nat) : Int) = ((i % 4 : Nat) : Int) := wrap64_in _ (by omega) (by omega)
theorem quo4w {i : Nat} (h : i ≤ 1000000) : wrap64 ((i / 4 : Nat) : Int) = ((i / 4 : Nat) : Int) := wrap64_in _ (by omega) (by omega)
theorem splL_step (c : List Nat) {i v x : Nat} (hv : ver i = v) (hx : c.getD i 0 = x) : (fun u => if u = v then splL c v i ++ [x] else splL c u i) = fun u => splL c u (i + 1) := by
  funext u
  show _ = if ver i = u then splL c u i ++ [c.getD i 0] else splL c u i
  rw [hv, hx]
  by_cases h : u = v
  · subst h
    simp
  · rw [if_neg h, if_neg (fun e => h e.symm)]
/-- What Split's loop knows. -/
structure Sp (w : World) (g : Nat) (s : Nat → Value) (ls : Nat → List Nat) (W : World) : Prop where
  four : Four w.heap.size g s ls W
  res : W.heap[w.heap.size]? = some (.cells nil4 50 (0, 0))
  lo : w.heap.size < g
  below : Below w.heap.size w W
theorem Sp.put {w : World} {g : Nat} {s : Nat → Value} {ls : Nat → List Nat} {W W1 : World} (h : Sp w g s ls W) {v : Nat} (hv : v < 4) {v1 : Value} {l : List Nat} (hR : (Kd.int .u8).R 5 W1 w.heap.size (fun _ => True) v1 (ints l)) (hg : W.grownBy W1 (s v).ownBlock)
    (hat : v1.ownBlock = (s v).ownBlock ∨ ∃ b, v1.ownBlock = some b ∧ W.heap.size ≤ b) : Sp w g (fun u => if u = v then v1 else s u) (fun u => if u = v then l else ls u) (W1.setCell ⟨g, v, none⟩ v1) := by
  have hro : some w.heap.size ≠ (s v).ownBlock := fun e => ((Kd.R_types (h.four.row v hv) h.res row_ty).1 _ e.symm).2 rfl
  have hr1 := blk_grown h.res hg hro
  have hlo := h.lo
  have hb := h.below.size
  refine ⟨h.four.put hv hR hg hat, ?_, h.lo, (pw_below_grown h.below _ hb hg (fun k hk => Kd.R_base (h.four.row v hv) k hk)).setCell (by show w.heap.size ≤ g; omega) _⟩
  have h2 : (W1.setCell ⟨g, v, none⟩ v1).heap[w.heap.size]? = W1.heap[w.heap.size]? := Below.heap_setCell W1 ⟨g, v, none⟩ v1 w.heap.size (by show w.heap.size ≠ g; omega)
  exact h2.trans hr1
set_option maxHeartbeats 3200000 in
set_option maxRecDepth 100000 in
theorem Split_any (cd : List Nat) (hbt : Bits cd) (A : Option Addr) (n c : Nat) (w : World) (hn : cd.length = n) (hC : (Kd.int .u8).C w A n (ints cd)) (hc : n ≤ c) (L : Nat) (hL : n = 4 * L) (hl : n ≤ 100000) :
    Calls Tryd.prog 72 #[.slice A n c] w fun e w' => ∃ s : Nat → Value, e = .returned (.tuple #[.agg #[s 0, s 1, s 2, s 3], .int .i64 0]) ∧ (∀ v, v < 4 → (Kd.int .u8).R 5 w' w.heap.size (fun _ => True) (s v) (ints (pickl cd v L))) ∧ Below w.heap.size w w' := by
  have hbr := fun W hB => BRight_any (ints cd) A n c W (Kd.C_below hC hB) hc (by omega)
  rw [bits_right hbt] at hbr
  have q0 : (n : Int).tmod 4 = 0 := by rw [rem4]; omega
  have HC := Aside0.mk (And.intro hC (And.intro hn (And.intro hbt (And.intro hL hbr))))
  clear hC hn hbt hL hbr hc
  go_enter Tryd.func72, Tryd.ntmps72
  go_wp2_with (go_at_call 48; refine (HC.out.2.2.2.2 _ (below_alloc (Below.refl _ _) _)).mono ?_; rintro e w1 ⟨rfl, q1, hw1⟩; have H1 := Aside0.mk hw1; clear hw1)
  have hSp : Sp w w1.heap.size (fun _ => .slice none 0 0) (fun v => splL cd v 0) (w1.alloc (.cells nil4 50)) := by
    have hB1 : Below w.heap.size w w1 := by rw [H1.out]; exact pw_below_drewN (below_alloc (Below.refl _ _) _) q1
    have hr1 : w1.heap[w.heap.size]? = some (.cells nil4 50 (0, 0)) := by
      rw [H1.out]
      exact below_cell_blk (w := w.alloc (.cells nil4 50)) (pw_below_drewN (Below.refl _ _) q1) (heap_alloc_new w _)
    have hlt := blk_lt hr1
    exact ⟨⟨heap_alloc_new w1 _, fun _ _ => Kd.R_nil _ _ _ _ _, fun _ _ _ _ _ k hk => by simp [Value.ownBlock] at hk⟩, below_cell_blk (below_alloc (Below.refl _ _) _) hr1, hlt, hB1.trans ((below_alloc (Below.refl _ _) _).mono hB1.size)⟩
  obtain ⟨g, hg⟩ : ∃ g, w1.heap.size = g := ⟨_, rfl⟩
  rw [hg] at hSp ⊢
  have H2 := Aside0.mk hSp
  clear hSp hg q0
  go_loopw [22] (fun x wr => ∃ (i : Nat) (s : Nat → Value), x = .int .i64 i ∧ i ≤ n ∧ Sp w g s (fun v => splL cd v i) wr) (fun x _ => n - (intOf x).toNat)
  case atStart => exact ⟨0, _, rfl, Nat.zero_le _, H2.out⟩
  case round =>
    obtain ⟨i, s, rfl, hi, hS⟩ := hrel
    by_cases h1 : i < n
    · have h1' : (i : Int) < (n : Int) := by omega
      obtain ⟨ad, hA, hcell⟩ := Kd.at_int (Kd.C_below HC.out.1 hS.below) (i : Int) (by omega) h1'
      cases hA
      have hib : i < cd.length := by have := HC.out.2.1; omega
      have hx : cd.getD i 0 = cd[i] := by rw [List.getD_eq_getElem?_getD, List.getElem?_eq_getElem hib]; rfl
      obtain ⟨x, hxx⟩ : ∃ x, cd[i] = x := ⟨_, rfl⟩
      rw [rd_ints hib, hxx, Int.toNat_natCast] at hcell
      have hver := PVersion_any i (by omega)
      obtain ⟨v, hv⟩ : ∃ v, ver i = v := ⟨_, rfl⟩
      rw [hv] at hver
      have hv4 : v < 4 := by rw [← hv]; exact ver_lt i
      have hv4i : (v : Int) < 4 := by omega
      have hlen := splL_len cd v i
      have hstep := splL_step cd hv (hx.trans hxx)
      have gc : wr.cell? ⟨g, v, none⟩ = some (s v) := (blk_cell hS.four.box v).trans (fourS_get s hv4)
      have hgo : some g ≠ (s v).ownBlock := fun e => ((Kd.R_types (hS.four.row v hv4) hS.four.box row_ty).1 g e.symm).2 rfl
      have hwr : w.heap.size ≤ wr.heap.size := hS.below.size
      have gc1 : ∀ o, (wr.alloc o).cell? ⟨g, v, none⟩ = some (s v) := fun o => Lib.cell?_alloc_some _ gc
      have HR := Aside0.mk (And.intro hS (And.intro hver (And.intro hstep (And.intro hgo (And.intro (show ((ints (splL cd v i)).length + 1) * 1 ≤ 140737488355328 by rw [ints_len]; omega) hv4)))))
      have r4 := rem4 i
      have d4 := quo4 i
      clear hS hver hstep hgo hv hx hxx hib hlen hv4
      have r4w := rem4w i
      have d4w := quo4w (i := i) (by omega)
      go_upto_region 9 with fail
      go_wp2_with fail
      refine (HR.out.2.1 _).mono ?_
      rintro e w' ⟨rfl, rfl⟩
      clear r4 d4 r4w d4w
      go_wp2_with (first
        | ((with_reducible refine gate_builtin (b := .append) (xs := #[.tmp 42, .tmp 44]) rfl ?_); at_builtin; refine Kd.R_append (Kd.int .u8) (w0 := wr) w.heap.size rfl (.tmp 42) (.tmp 44) 22 5 (.int .u8 0) 1 rfl Tryd.underlying22 info5 rfl (by decide) (by decide) (s v) (ints (splL cd v i)) (x : Int) [.int .u8 (x : Int)] (fun _ => True) (fun _ => False) rfl rfl ?aP (fun _ hk => hk.elim) ?aF ?aO ?aB ?aS ?aL ?_; (case aP => exact rfl); (case aB => exact Below.refl _ _); (case aF => exact (fun _ _ => trivial)); (case aO => exact HR.out.1.four.row v HR.out.2.2.2.2.2); (case aS => exact hwr); (case aL => exact HR.out.2.2.2.2.1); intro v1 w7 ho hb7 hg7 hat7; obtain ⟨Aq, cq, eq, hcq, hCq⟩ := Kd.R_reads ho; subst eq; clear hcq hCq; have hbx7 := blk_grown HR.out.1.four.box hg7 HR.out.2.2.2.1; have gc7 : w7.cell? ⟨g, v, none⟩ = some (s v) := (blk_cell hbx7 v).trans (fourS_get s HR.out.2.2.2.2.2); have gf7 : w7.frozen? ⟨g, v, none⟩ = false := blk_frozen hbx7 v; have HK := Aside0.mk (And.intro ho (And.intro hg7 hat7)); clear ho hb7 hg7 hat7 hbx7))
      have ho := HK.out.1
      have hP := HR.out.1.put HR.out.2.2.2.2.2 (l := splL cd v i ++ [x]) (by rw [ints_append]; exact ho) HK.out.2.1 HK.out.2.2
      rw [HR.out.2.2.1, show (ints (splL cd v i) ++ [(x : Int)]).length = (ints (splL cd v i)).length + 1 from List.length_append] at hP
      exact ⟨⟨i + 1, _, by go_num, by omega, hP⟩, by simp only [intOf]; omega⟩
    · obtain rfl : i = n := by omega
      have h1' : ¬ (i : Int) < (i : Int) := by omega
      have k0 : wr.cell? ⟨g, 0, none⟩ = some (s 0) := blk_cell hS.four.box 0
      have k1 : wr.cell? ⟨g, 1, none⟩ = some (s 1) := blk_cell hS.four.box 1
      have k2 : wr.cell? ⟨g, 2, none⟩ = some (s 2) := blk_cell hS.four.box 2
      have k3 : wr.cell? ⟨g, 3, none⟩ = some (s 3) := blk_cell hS.four.box 3
      have f0 := blk_frozen hS.res 0
      have f1 := blk_frozen hS.res 1
      have f2 := blk_frozen hS.res 2
      have f3 := blk_frozen hS.res 3
      have c0 : wr.cell? ⟨w.heap.size, 0, none⟩ = some (.slice none 0 0) := blk_cell hS.res 0
      have c1 : wr.cell? ⟨w.heap.size, 1, none⟩ = some (.slice none 0 0) := blk_cell hS.res 1
      have c2 : wr.cell? ⟨w.heap.size, 2, none⟩ = some (.slice none 0 0) := blk_cell hS.res 2
      have c3 : wr.cell? ⟨w.heap.size, 3, none⟩ = some (.slice none 0 0) := blk_cell hS.res 3
      obtain ⟨A0, d0, e0, _, _⟩ := Kd.R_reads (hS.four.row 0 (by decide))
      obtain ⟨A1, d1, e1, _, _⟩ := Kd.R_reads (hS.four.row 1 (by decide))
      obtain ⟨A2, d2, e2, _, _⟩ := Kd.R_reads (hS.four.row 2 (by decide))
      obtain ⟨A3, d3, e3, _, _⟩ := Kd.R_reads (hS.four.row 3 (by decide))
      generalize (ints (splL cd 0 i)).length = l0 at e0
      generalize (ints (splL cd 1 i)).length = l1 at e1
      generalize (ints (splL cd 2 i)).length = l2 at e2
      generalize (ints (splL cd 3 i)).length = l3 at e3
      rw [e0] at k0
      rw [e1] at k1
      rw [e2] at k2
      rw [e3] at k3
      have HS := Aside0.mk (And.intro hS (And.intro e0 (And.intro e1 (And.intro e2 e3))))
      clear hS e0 e1 e2 e3
      go_wp2_with fail
      obtain ⟨hS, e0, e1, e2, e3⟩ := HS.out
      have hn4 : i = 4 * L := HC.out.2.2.2.1
      have hlo := hS.lo
      have hr := hS.res
      have hrow : ∀ v, v < 4 → (Kd.int .u8).R 5 ((((wr.setCell ⟨w.heap.size, 0, none⟩ (.slice A0 l0 d0)).setCell ⟨w.heap.size, 1, none⟩ (.slice A1 l1 d1)).setCell ⟨w.heap.size, 2, none⟩ (.slice A2 l2 d2)).setCell ⟨w.heap.size, 3, none⟩ (.slice A3 l3 d3)) w.heap.size (fun _ => True) (s v) (ints (pickl cd v L)) := fun v hv => by
        have h := hS.four.row v hv
        rw [hn4, splL_whole cd hv] at h
        exact Kd.R_set (Kd.R_set (Kd.R_set (Kd.R_set h hr row_ty 0 _) (blk_set hr 0 _) row_ty 1 _) (blk_set (blk_set hr 0 _) 1 _) row_ty 2 _) (blk_set (blk_set (blk_set hr 0 _) 1 _) 2 _) row_ty 3 _
      have hB : Below w.heap.size w ((((wr.setCell ⟨w.heap.size, 0, none⟩ (.slice A0 l0 d0)).setCell ⟨w.heap.size, 1, none⟩ (.slice A1 l1 d1)).setCell ⟨w.heap.size, 2, none⟩ (.slice A2 l2 d2)).setCell ⟨w.heap.size, 3, none⟩ (.slice A3 l3 d3)) := (((hS.below.setCell (Nat.le_refl _) _).setCell (Nat.le_refl _) _).setCell (Nat.le_refl _) _).setCell (Nat.le_refl _) _
      exact bodyPost_ret (v := .tuple #[.agg #[.slice A0 l0 d0, .slice A1 l1 d1, .slice A2 l2 d2, .slice A3 l3 d3], .int .i64 0]) (by simp [results, Tryd.results72, go_sem, c0, c1, c2, c3]) rfl ⟨s, by rw [e0, e1, e2, e3], hrow, hB⟩
end Go.Proofs.YtnejnnfjbhpigaaDoor.Vit
