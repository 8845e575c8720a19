/- The law HarqOffers: calls of none, the document's New, and what the loop knows. Each theorem says its own conditions. -/
import Derived.Test.YtnejnnfjbhpigaaDoorDh
namespace Go.Proofs.YtnejnnfjbhpigaaDoor.Vit
open Go.RowKit Go.Proofs.YtnejnnfjbhpigaaDoorW.PrintWords Go.Proofs.YtnejnnfjbhpigaaDoorW.PrintLast Go.Proofs.YtnejnnfjbhpigaaDoorW.PrintMore Go.Proofs.YtnejnnfjbhpigaaDoor.Mem Go.Proofs.YtnejnnfjbhpigaaDoor.Crc
attribute [local go_sem] max2_int min2_int max_two min_two max_three min_three max_four min_four   -- for this text's walks alone
set_option linter.unusedVariables false
set_option linter.unusedSimpArgs false

open Go.Proofs.YtnejnnfjbhpigaaDoor.Chk
theorem hnone_any (w : World) : Calls Tryd.prog 16 #[] w fun e w' => e = .returned (.pointer none) ∧ w = w' := by
  go_enter Tryd.func16, Tryd.ntmps16
  go_wp2
  go_ret
  exact ⟨rfl, rfl⟩
theorem Done_nil (w : World) : Calls Tryd.prog 12 #[.pointer none] w fun e w' => e = .returned (.bool true) ∧ w = w' := by
  go_enter Tryd.func12, Tryd.ntmps12
  go_wp2
  go_ret
  exact ⟨rfl, rfl⟩
theorem Came_nil (w : World) : Calls Tryd.prog 17 #[.pointer none] w fun e w' => e = .returned (.int .i64 0) ∧ w = w' := by
  go_enter Tryd.func17, Tryd.ntmps17
  go_wp2
  go_ret
  exact ⟨rfl, rfl⟩
theorem Len_nil (w : World) : Calls Tryd.prog 18 #[.pointer none] w fun e w' => e = .returned (.int .i64 0) ∧ w = w' := by
  go_enter Tryd.func18, Tryd.ntmps18
  go_wp2
  go_ret
  exact ⟨rfl, rfl⟩
set_option maxHeartbeats 3200000 in
set_option maxRecDepth 100000 in
theorem RefNew_any (n : Nat) (hn : n ≤ 64) (w : World) : Calls Tryd.prog 19 #[.int .i64 (n : Int)] w fun e w' => ∃ q d s, e = .returned (.pointer (some ⟨q, 0, none⟩)) ∧ PD w.heap.size w' q d s ⟨n, 0, List.replicate (4 * (8 * (n + 4) + 6)) 0, fun _ => 0, false⟩ ∧ Below w.heap.size w w' := by
  have hnew := New13_any (8 * (n + 4)) (by omega) 
  obtain ⟨M, hM⟩ : ∃ M, 8 * (n + 4) = M := ⟨_, rfl⟩
  have hm : 8 * ((n : Int) + 4) = (M : Int) := by omega
  have hnb : (n : Int) ≤ 64 := by omega
  rw [hM] at hnew ⊢
  have HN := Aside0.mk (And.intro hnew (And.intro hM hn))
  clear hnew hM hn
  go_enter Tryd.func19, Tryd.ntmps19
  go_wp2_with (go_at_call 36; refine (HN.out.1 _).mono ?_; rintro e w1 ⟨rfl, hI, hB⟩; have H1 := Aside0.mk (And.intro hI hB); clear hI hB)
  go_ret
  have hB1 := H1.out.2
  have hBa := below_alloc (Below.refl w1.heap.size w1) (.cells #[.int .i64 (n : Int), .pointer (some ⟨w.heap.size + 1, 0, none⟩), .int .i64 0, .bool false] 47)
  refine ⟨_, w.heap.size + 1, w.heap.size, rfl, ⟨⟨heap_alloc_new w1 _, ?_, HN.out.2.2, Nat.zero_le _, fun v => Nat.le_refl _⟩, fun x hx => ?_, ?_⟩, hB1.trans (hBa.mono hB1.size)⟩
  · show IsRef _ _ _ (8 * (n + 4)) _ _
    rw [HN.out.2.1]
    exact H1.out.1.below hBa
  · have := List.eq_of_mem_replicate hx
    omega
  · exact ⟨hB1.size, Nat.le_succ _, Nat.le_refl _⟩
theorem row_apartD {W : World} {B q d e : Nat} {s : HS} (hP : PD B W q d e s) {base : Nat} {ok : Nat → Prop} {A : Option Addr} {L c : Nat} {p : List Int} (hR : (Kd.int .u8).R 5 W base ok (.slice A L c) p) : ∀ ad, A = some ad → ¬ PS3 q d e ad.block := fun ad ha h => by
  have ho : (Value.slice A L c).ownBlock = some ad.block := by rw [ha]; rfl
  have hty : ∀ t, 5 ≠ t → ∀ q, q ∈ 5 :: (Kd.int .u8).E → q ≠ t := fun t ht q hq => by
    rcases List.mem_cons.1 hq with rfl | h
    · exact ht
    · exact absurd h List.not_mem_nil
  rcases h with h | h | h
  · exact ((Kd.R_types hR hP.is.blk (hty _ (by decide))).1 _ ho).2 h
  · exact ((Kd.R_types hR hP.is.buf.blk (hty _ (by decide))).1 _ ho).2 h
  · exact ((Kd.R_types hR hP.is.buf.row (hty _ (by decide))).1 _ ho).2 h
/-- What the law's loop knows: both processes in one state. -/
structure HB (w : World) (pb q : Nat) (s : HS) (b sb d e : Nat) (W : World) : Prop where
  pa : PA w.heap.size W pb b sb s
  pd : PD w.heap.size W q d e s
  ne : sb ≠ e
  below : Below w.heap.size w W
theorem HB.more {w W W' : World} {pb q b sb d e : Nat} {s : HS} (h : HB w pb q s b sb d e W) (hB : Below W.heap.size W W') : HB w pb q s b sb d e W' := ⟨h.pa.below hB, h.pd.below hB, h.ne, h.below.trans (hB.mono h.below.size)⟩
theorem two_apart {W : World} {B pb b sb q d e : Nat} {s u : HS} (hA : PA B W pb b sb s) (hD : PD B W q d e u) (hne : sb ≠ e) : ∀ k, PS3 pb b sb k → PS3 q d e k → False := fun k h1 h2 => by
  have a1 : q ≠ pb := blk_ne hD.is.blk hA.is.blk (by decide)
  have a2 : q ≠ b := blk_ne hD.is.blk hA.is.buf.blk (by decide)
  have a3 : q ≠ sb := blk_ne hD.is.blk hA.is.buf.row (by decide)
  have b1 : d ≠ pb := blk_ne hD.is.buf.blk hA.is.blk (by decide)
  have b2 : d ≠ b := blk_ne hD.is.buf.blk hA.is.buf.blk (by decide)
  have b3 : d ≠ sb := blk_ne hD.is.buf.blk hA.is.buf.row (by decide)
  have c1 : e ≠ pb := blk_ne hD.is.buf.row hA.is.blk (by decide)
  have c2 : e ≠ b := blk_ne hD.is.buf.row hA.is.buf.blk (by decide)
  rcases h1 with h1 | h1 | h1 <;> rcases h2 with h2 | h2 | h2 <;> omega
theorem PD.chg {B : Nat} {W W' : World} {q d e : Nat} {s : HS} {S : Nat → Prop} (h : PD B W q d e s) (hC : Chg S W W') (hn : ∀ k, S k → PS3 q d e k → False) : PD B W' q d e s := ⟨h.is.chg hC (fun hs => hn _ hs (.inl rfl)) (fun hs => hn _ hs (.inr (.inl rfl))) (fun hs => hn _ hs (.inr (.inr rfl))), h.in_, h.lo⟩
theorem PA.chg {B : Nat} {W W' : World} {pb b sb : Nat} {s : HS} {S : Nat → Prop} (h : PA B W pb b sb s) (hC : Chg S W W') (hn : ∀ k, S k → PS3 pb b sb k → False) (h0 : ¬ S 0) : PA B W' pb b sb s := ⟨h.is.chg hC (fun hs => hn _ hs (.inl rfl)) (fun hs => hn _ hs (.inr (.inl rfl))) (fun hs => hn _ hs (.inr (.inr rfl))), h.in_, h.lo, h.taps.chg hC h0, h.pos⟩
/-- Behind a version that came to both. -/
theorem HB.next {w W W1 W2 : World} {pb q b sb d e b' sb' d' e' : Nat} {s u : HS} (h : HB w pb q s b sb d e W) (hA : PA w.heap.size W1 pb b' sb' u) (hs : (b' = b ∧ sb' = sb) ∨ (W.heap.size ≤ b' ∧ W.heap.size ≤ sb')) (hC : Chg (PS3 pb b sb) W W1)
    (hD : PD w.heap.size W2 q d' e' u) (hs2 : (d' = d ∧ e' = e) ∨ (W1.heap.size ≤ d' ∧ W1.heap.size ≤ e')) (hC2 : Chg (PS3 q d e) W1 W2) : HB w pb q u b' sb' d' e' W2 := by
  have hD1 : PD w.heap.size W1 q d e s := h.pd.chg hC (two_apart h.pa h.pd h.ne)
  have le := blk_lt h.pd.is.buf.row
  have le1 := blk_lt hA.is.buf.row
  have hne : sb' ≠ e := by
    have := h.ne
    rcases hs with hs | hs <;> omega
  have hlo := h.pd.lo
  have hpos := h.pa.pos
  refine ⟨PA.chg hA hC2 (fun k h1 h2 => two_apart hA hD1 hne k h2 h1) ?_, hD, ?_, ?_⟩
  · rintro (h1 | h1 | h1) <;> omega
  · rcases hs2 with hs2 | hs2 <;> omega
  · have hw := h.below.size
    have hB1 := PS3_new hC h.below (Nat.le_refl _) h.pa.lo
    have h3 : PD w.heap.size W1 q d e s := hD1
    exact PS3_new hC2 hB1 (Nat.le_refl _) h3.lo
end Go.Proofs.YtnejnnfjbhpigaaDoor.Vit
