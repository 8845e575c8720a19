/- The walk of the law FifoActs: the queue and the document's queue side by side. -/
import Derived.Test.YtfhfeelkjpcogaaFh
namespace Go.Proofs.Ytfhfeelkjpcogaa.Fifo
open Go.RowKit Go.Proofs.YtfhfeelkjpcogaaW.PrintWords Go.Proofs.YtfhfeelkjpcogaaW.PrintLast Go.Proofs.YtfhfeelkjpcogaaW.PrintMore Go.Proofs.Ytfhfeelkjpcogaa.Mem
attribute [local go_sem] max2_int min2_int max_two min_two max_three min_three max_four min_four   -- for this text's walks alone
set_option linter.unusedVariables false
set_option linter.unusedSimpArgs false

/-- The head of a row. -/
theorem head_C2 {w : World} {A : Option Addr} {n m : Nat} {x : List Int} (h : (Kd.int .u8).C w A n x) (hm : m ≤ n) : (Kd.int .u8).C w A m (x.take m) := by
  obtain ⟨hl, hb, hr⟩ := h
  refine ⟨by rw [List.length_take]; omega, by omega, fun hp => ?_⟩
  obtain ⟨ad, hA, hc⟩ := hr (by omega)
  refine ⟨ad, hA, fun j p hj => hc j p ?_⟩
  rw [List.getElem?_take] at hj
  split at hj
  · exact hj
  · cases hj

theorem docDeliver_end {ok : Nat → Prop} {w : World} {base h : Nat} {most dl pl ac : Int} {L : List (List Int)} (hI : IsW ok w base h most L dl pl ac) (h0 : 0 ≤ dl) (h1 : dl ≤ 1000000) (hd : dl = L.length) :
    Calls Try.prog 22 #[.pointer (some ⟨h, 0, none⟩)] w fun e w' => e = .returned (.int .i64 9) ∧ IsW ok w' base h most L dl pl ac ∧ Chg (fun k => k = h) w w' :=
  (docDeliver_any hI h0 h1).mono fun e w' hx => by rw [if_pos hd, if_pos hd] at hx; exact hx
theorem docDeliver_go {ok : Nat → Prop} {w : World} {base h : Nat} {most dl pl ac : Int} {L : List (List Int)} (hI : IsW ok w base h most L dl pl ac) (h0 : 0 ≤ dl) (h1 : dl ≤ 1000000) (hd : ¬ dl = L.length) :
    Calls Try.prog 22 #[.pointer (some ⟨h, 0, none⟩)] w fun e w' => e = .returned (.int .i64 0) ∧ IsW ok w' base h most L (dl + 1) pl ac ∧ Chg (fun k => k = h) w w' :=
  (docDeliver_any hI h0 h1).mono fun e w' hx => by rw [if_neg hd, if_neg hd] at hx; exact hx
theorem docPoll_at {ok : Nat → Prop} {w : World} {base h : Nat} {most dl ac : Int} {pl : Nat} {L : List (List Int)} {z : List Int} (hI : IsW ok w base h most L dl pl ac) (hp : (pl : Int) ≠ dl) (h1 : pl < L.length) (hL : L.length ≤ 1000000) (hz : L.getD pl [] = z) :
    Calls Try.prog 23 #[.pointer (some ⟨h, 0, none⟩)] w fun e w' => ∃ A' c', e = .returned (.tuple #[.slice A' z.length c', .bool true]) ∧ (Kd.int .u8).C w' A' z.length z ∧
      IsW ok w' base h most L dl (pl + 1) ac ∧ Chg (fun k => k = h) w w' :=
  (docPoll_some hI hp (by omega) (by omega) hL).mono fun e w' hx => by rw [Int.toNat_natCast, hz] at hx; exact hx

theorem kept_is {ok : Nat → Prop} {w : World} {base g : Nat} {most d K : Int} {U W : List (List Int)} (h : IsQ ok w base g most U W d)
    (hU : U.length ≤ 1000000) (hd0 : 0 ≤ d) (hd1 : d ≤ 1000000) (hK : (U.length : Int) + d = K) :
    Calls Try.prog 17 #[.pointer (some ⟨g, 0, none⟩)] w fun e w' => e = .returned (.int .i64 K) ∧ ∃ n, w' = w.drewN n := hK ▸ kept_any h hU hd0 hd1
theorem under_is {ok : Nat → Prop} {w : World} {base g : Nat} {most d K : Int} {U W : List (List Int)} (h : IsQ ok w base g most U W d) (hK : (U.length : Int) = K) :
    Calls Try.prog 16 #[.pointer (some ⟨g, 0, none⟩)] w fun e w' => e = .returned (.int .i64 K) ∧ ∃ n, w' = w.drewN n := (under_any h).mono fun e w' ⟨he, hw⟩ => ⟨hK ▸ he, 0, hw.symm⟩
theorem waiting_is {ok : Nat → Prop} {w : World} {base g : Nat} {most d K : Int} {U W : List (List Int)} (h : IsQ ok w base g most U W d) (hK : (W.length : Int) = K) :
    Calls Try.prog 20 #[.pointer (some ⟨g, 0, none⟩)] w fun e w' => e = .returned (.int .i64 K) ∧ ∃ n, w' = w.drewN n := (waiting_any h).mono fun e w' ⟨he, hw⟩ => ⟨hK ▸ he, 0, hw.symm⟩

/-- An act: what, a message, a number. -/
abbrev DA : Kd (Int × List Int × Int) := Kd.pair (Kd.int .i64) (Kd.pair D (Kd.int .i64))

/-- Both queues, behind k acts. -/
def ActRel (B g h : Nat) (most : Int) (k : Nat) (w wr : World) : Prop :=
  ∃ (okq okw : Nat → Prop) (L : List (List Int)) (dl pl ac : Nat), (∀ j, okq j → ¬ okw j) ∧ (∀ j, okq j → B ≤ j ∧ j < wr.heap.size) ∧ (∀ j, okw j → B ≤ j ∧ j < wr.heap.size) ∧
    IsQ okq wr B g most (L.drop dl) ((L.take dl).drop pl) ((dl : Int) - ac) ∧ IsW okw wr B h most L dl pl ac ∧ Below B w wr ∧ ac ≤ dl ∧ pl ≤ dl ∧ dl ≤ L.length ∧ L.length ≤ k ∧ (L.length : Int) - ac ≤ most

theorem IsQ.lower {ok : Nat → Prop} {w : World} {base base' g : Nat} {most d : Int} {U W : List (List Int)} (h : IsQ ok w base g most U W d) (hb : base' ≤ base) : IsQ ok w base' g most U W d := by
  obtain ⟨v1, v2, hbk, hg, hok, h1, h2, hne⟩ := h
  exact ⟨v1, v2, hbk, Nat.le_trans hb hg, hok, Kd.Q_lower h1 hb, Kd.Q_lower h2 hb, hne⟩
theorem u64_wrap_nonneg (x : Int) : 0 ≤ IntKind.u64.wrap x := by
  have := IntKind.wrap_u64 x
  rw [this]
  omega
theorem act_alloc {B g h k : Nat} {most : Int} {w wr : World} (hR : ActRel B g h most k w wr) (o : Obj) : ActRel B g h most k w (wr.alloc o) := by
  obtain ⟨okq, okw, L, dl, pl, ac, h1, h2, h3, h4, h5, h6, h7⟩ := hR
  exact ⟨okq, okw, L, dl, pl, ac, h1, fun j hj => ⟨(h2 j hj).1, by simp; have := (h2 j hj).2; omega⟩, fun j hj => ⟨(h3 j hj).1, by simp; have := (h3 j hj).2; omega⟩,
    h4.below (below_alloc (Below.refl _ _) _), h5.below (below_alloc (Below.refl _ _) _), h6.alloc (by obtain ⟨_, _, hb, hg, _⟩ := h4; have := blk_lt hb; omega) _, h7⟩
theorem act_below {B g h k : Nat} {most : Int} {w wr w2 : World} (hR : ActRel B g h most k w wr) (hb : Below wr.heap.size wr w2) : ActRel B g h most k w w2 := by
  obtain ⟨okq, okw, L, dl, pl, ac, h1, h2, h3, h4, h5, h6, h7⟩ := hR
  have hs := hb.size
  exact ⟨okq, okw, L, dl, pl, ac, h1, fun j hj => by have := h2 j hj; omega, fun j hj => by have := h3 j hj; omega,
    h4.below hb, h5.below hb, h6.trans (hb.mono (by obtain ⟨_, _, hb', hg, _⟩ := h4; have := blk_lt hb'; omega)), h7⟩
/-- Both queues, and a row of the round's own beside them. -/
def ActRow (B g h : Nat) (most : Int) (k : Nat) (w wr : World) (v : Value) (m : Nat) : Prop :=
  ∃ (okq okw okm : Nat → Prop) (L : List (List Int)) (dl pl ac : Nat) (ys : List Int), (∀ j, okq j → ¬ okw j) ∧ (∀ j, okq j → B ≤ j ∧ j < wr.heap.size) ∧ (∀ j, okw j → B ≤ j ∧ j < wr.heap.size) ∧ (∀ j, okm j → ¬ okq j ∧ ¬ okw j) ∧
    IsQ okq wr B g most (L.drop dl) ((L.take dl).drop pl) ((dl : Int) - ac) ∧ IsW okw wr B h most L dl pl ac ∧ Below B w wr ∧ (ac ≤ dl ∧ pl ≤ dl ∧ dl ≤ L.length ∧ L.length ≤ k ∧ (L.length : Int) - ac ≤ most) ∧
    ys.length = m ∧ (Kd.int .u8).R 5 wr B okm v ys
theorem ActRow.rel {B g h k m : Nat} {most : Int} {w wr : World} {v : Value} (hR : ActRow B g h most k w wr v m) : ActRel B g h most k w wr := by
  obtain ⟨okq, okw, okm, L, dl, pl, ac, ys, h1, h2, h3, h4, h5, h6, h7, h8, h9, h10⟩ := hR
  exact ⟨okq, okw, L, dl, pl, ac, h1, h2, h3, h5, h6, h7, h8⟩
/-- One message more, in both. -/
theorem ActRow.send {B g h k m : Nat} {most : Int} {w wc w4 w5 w6 : World} {v : Value} {okq okw okm : Nat → Prop} {L : List (List Int)} {dl pl ac : Nat} {ys x : List Int}
    (hd : ∀ j, okq j → ¬ okw j) (hq : ∀ j, okq j → B ≤ j ∧ j < wc.heap.size) (hw : ∀ j, okw j → B ≤ j ∧ j < wc.heap.size) (hm : ∀ j, okm j → wc.heap.size ≤ j ∧ j < w4.heap.size) (hs4 : wc.heap.size ≤ w4.heap.size) (hB : B ≤ w4.heap.size)
    (hQ : IsQ (fun k => okq k ∨ w4.heap.size ≤ k) w5 B g most (L.drop dl ++ [x]) ((L.take dl).drop pl) ((dl : Int) - ac)) (hc5 : Chg okq w4 w5)
    (hW : IsW (fun k => okw k ∨ w5.heap.size ≤ k) w6 B h most (L ++ [x]) dl pl ac) (hc6 : Chg okw w5 w6) (hb : Below B w w4) (ha : ac ≤ dl ∧ pl ≤ dl ∧ dl ≤ L.length ∧ L.length ≤ k) (hmo : (L.length : Int) - ac < most)
    (hy : ys.length = m) (hR : (Kd.int .u8).R 5 w4 B okm v ys) : ActRow B g h most (k + 1) w w6 v m := by
  have hs5 := hc5.size
  have hs6 := hc6.size
  have hQ6 := (hQ.bound).chg hc6 (fun j hj _ hn => by
    rcases hj.1 with h | h
    · exact hd j h hn
    · have := (hw j hn).2; omega)
  refine ⟨fun j => okq j ∨ (w4.heap.size ≤ j ∧ j < w5.heap.size), _, okm, L ++ [x], dl, pl, ac, ys, ?_, ?_, ?_, ?_, ?_, hW.bound, ?_, ?_, hy, ?_⟩
  · intro j hj hn
    have hn1 := hn.1
    rcases hj with h | h
    · rcases hn1 with h' | h'
      · exact hd j h h'
      · have := (hq j h).2; omega
    · rcases hn1 with h' | h'
      · have := (hw j h').2; omega
      · omega
  · intro j hj
    rcases hj with h | h
    · have := hq j h; omega
    · omega
  · intro j hj
    exact ⟨hj.2.1, hj.2.2⟩
  · intro j hj
    have := hm j hj
    refine ⟨fun h => ?_, fun h => ?_⟩
    · rcases h with h | h
      · have := (hq j h).2; omega
      · omega
    · rcases h.1 with h | h
      · have := (hw j h).2; omega
      · omega
  · rw [List.drop_append_of_le_length ha.2.2.1, List.take_append_of_le_length ha.2.2.1]
    refine hQ6.mono (fun j hj => ?_)
    rcases hj.1 with h | h
    · exact Or.inl h
    · exact Or.inr ⟨h, hj.2.2⟩
  · exact (hb.trans (hc5.below hB (fun i hi => (hq i hi).1))).trans (hc6.below (by omega) (fun i hi => (hw i hi).1))
  · refine ⟨ha.1, ha.2.1, by simp; omega, by simp; omega, by simp; omega⟩
  · refine Kd.R_step (Kd.R_step hR (fun j hj hl => hc5.block j hl (fun h => ?_))) (fun j hj hl => hc6.block j hl (fun h => ?_))
    · have := (hq j h).2; have := (hm j hj).1; omega
    · have := (hw j h).2; have := (hm j hj).1; omega
/-- Nothing more: the worlds' draws alone. -/
theorem ActRow.same {B g h k m : Nat} {most : Int} {w wc w4 w6 : World} {v : Value} {okq okw okm : Nat → Prop} {L : List (List Int)} {dl pl ac : Nat} {ys : List Int}
    (hd : ∀ j, okq j → ¬ okw j) (hq : ∀ j, okq j → B ≤ j ∧ j < wc.heap.size) (hw : ∀ j, okw j → B ≤ j ∧ j < wc.heap.size) (hm : ∀ j, okm j → wc.heap.size ≤ j ∧ j < w4.heap.size) (hs4 : wc.heap.size ≤ w4.heap.size)
    (hQ : IsQ okq w4 B g most (L.drop dl) ((L.take dl).drop pl) ((dl : Int) - ac)) (hW : IsW okw w4 B h most L dl pl ac) (h6 : ∃ n, w6 = w4.drewN n) (hb : Below B w w4) (ha : ac ≤ dl ∧ pl ≤ dl ∧ dl ≤ L.length ∧ L.length ≤ k) (hmo : (L.length : Int) - ac ≤ most)
    (hy : ys.length = m) (hR : (Kd.int .u8).R 5 w4 B okm v ys) : ActRow B g h most (k + 1) w w6 v m := by
  obtain ⟨n, rfl⟩ := h6
  exact ⟨okq, okw, okm, L, dl, pl, ac, ys, hd, fun j hj => ⟨(hq j hj).1, by have := (hq j hj).2; simp; omega⟩, fun j hj => ⟨(hw j hj).1, by have := (hw j hj).2; simp; omega⟩,
    fun j hj => ⟨fun h => by have := (hq j h).2; have := (hm j hj).1; omega, fun h => by have := (hw j h).2; have := (hm j hj).1; omega⟩,
    hQ.drewN n, hW.drewN n, pw_below_drewN hb n, ⟨ha.1, ha.2.1, ha.2.2.1, by omega, hmo⟩, hy, Kd.R_below hR (pw_below_drewN (Below.refl _ _) n)⟩
theorem ActRow.form {B g h k m c' : Nat} {most : Int} {w wr : World} {A' : Option Addr} (hR : ActRow B g h most k w wr (.slice A' m c') m) (hm : 0 < m) : ∃ b, A' = some ⟨b, 0, none⟩ := by
  obtain ⟨okq, okw, okm, L, dl, pl, ac, ys, h1, h2, h3, h4, h5, h6, h7, h8, h9, h10⟩ := hR
  obtain ⟨b, cap, he, _⟩ := Kd.R_form h10 (by omega)
  injection he with he
  exact ⟨b, he⟩
theorem ActRow.at_ {B g h k m c' b : Nat} {most : Int} {w wr : World} (hR : ActRow B g h most k w wr (.slice (some ⟨b, 0, none⟩) m c') m) (q : Nat) (hq : q < m) :
    ∃ x : Int, wr.cell? ⟨b, q, none⟩ = some (.int .u8 x) ∧ wr.frozen? ⟨b, q, none⟩ = false := by
  obtain ⟨okq, okw, okm, L, dl, pl, ac, ys, h1, h2, h3, h4, h5, h6, h7, h8, h9, h10⟩ := hR
  obtain ⟨h11, h12⟩ := Kd.R_celln (0 : Int) h10 (q : Int) (by omega) (by omega)
  exact ⟨_, by simpa using h11, by simpa using h12⟩
theorem ActRow.put {B g h k m c' b : Nat} {most : Int} {w wr : World} (hR : ActRow B g h most k w wr (.slice (some ⟨b, 0, none⟩) m c') m) (q : Nat) (x : Int) :
    ActRow B g h most k w (wr.setCell ⟨b, q, none⟩ (.int .u8 x)) (.slice (some ⟨b, 0, none⟩) m c') m := by
  obtain ⟨okq, okw, okm, L, dl, pl, ac, ys, h1, h2, h3, h4, h5, h6, h7, h8, h9, h10⟩ := hR
  have hb : okm b := h10.1 b (by simp [Value.ownBlock])
  have hch : Chg (fun j => j = b) wr (wr.setCell ⟨b, q, none⟩ (.int .u8 x)) := Chg.set_ (p := ⟨b, q, none⟩) (Chg.refl (fun j => j = b) _) (fun _ => rfl) _
  have hsz : (wr.setCell ⟨b, q, none⟩ (.int .u8 x)).heap.size = wr.heap.size := by simp [World.setCell]
  have hbB : B ≤ b := by
    obtain ⟨inner, ho⟩ := Kd.R_own h10
    exact own_base ho b (by simp [Value.ownBlock])
  have hBs : B ≤ wr.heap.size := by obtain ⟨_, _, hb', hg, _⟩ := h5; have := blk_lt hb'; omega
  refine ⟨okq, okw, okm, L, dl, pl, ac, ys.set q x, h1, fun j hj => by rw [hsz]; exact h2 j hj, fun j hj => by rw [hsz]; exact h3 j hj, h4, h5.chg hch (fun j hj _ he => (h4 b hb).1 (he ▸ hj)), h6.chg hch (fun j hj _ he => (h4 b hb).2 (he ▸ hj)),
    h7.trans (hch.below hBs (fun i hi => by omega)), h8, by rw [List.length_set]; exact h9, ?_⟩
  have := (Kd.R_putg h10 (q : Int) x).1
  rw [Int.toNat_natCast] at this
  exact this
/-- A message is delivered, in both. -/
theorem act_deliver {B g h k : Nat} {most : Int} {w wc w5 w6 : World} {okq okw : Nat → Prop} {L : List (List Int)} {dl pl ac : Nat} {x : List Int}
    (hd : ∀ j, okq j → ¬ okw j) (hq : ∀ j, okq j → B ≤ j ∧ j < wc.heap.size) (hw : ∀ j, okw j → B ≤ j ∧ j < wc.heap.size) (hB : B ≤ wc.heap.size)
    (hQ : IsQ (fun k => okq k ∨ wc.heap.size ≤ k) w5 B g most (L.drop (dl + 1)) ((L.take dl).drop pl ++ [x]) ((dl : Int) - ac + 1)) (hc5 : Chg okq wc w5) (hx : (L.take dl).drop pl ++ [x] = (L.take (dl + 1)).drop pl)
    (hW : IsW okw w6 B h most L ((dl : Int) + 1) pl ac) (hc6 : Chg (fun j => j = h) w5 w6) (hh : okw h) (hb : Below B w wc) (ha : ac ≤ dl ∧ pl ≤ dl ∧ dl < L.length ∧ L.length ≤ k) (hmo : (L.length : Int) - ac ≤ most) : ActRel B g h most (k + 1) w w6 := by
  have hs5 := hc5.size
  have hs6 := hc6.size
  rw [hx] at hQ
  have hQ6 := (hQ.bound).chg hc6 (fun j hj _ hn => by
    subst hn
    rcases hj.1 with h' | h'
    · exact hd j h' hh
    · have := (hw j hh).2; omega)
  refine ⟨fun j => okq j ∨ (wc.heap.size ≤ j ∧ j < w5.heap.size), okw, L, dl + 1, pl, ac, ?_, ?_, ?_, ?_, by simpa using hW, ?_, by omega, by omega, by omega, by omega, hmo⟩
  · intro j hj hn
    rcases hj with h | h
    · exact hd j h hn
    · have := (hw j hn).2; omega
  · intro j hj
    rcases hj with h | h
    · have := hq j h; omega
    · omega
  · intro j hj
    have := hw j hj; omega
  · rw [show (((dl + 1 : Nat) : Int) - ac) = (dl : Int) - ac + 1 by omega]
    refine hQ6.mono (fun j hj => ?_)
    rcases hj.1 with h | h
    · exact Or.inl h
    · exact Or.inr ⟨h, hj.2.2⟩
  · exact (hb.trans (hc5.below hB (fun i hi => (hq i hi).1))).trans (hc6.below (by omega) (fun i hi => hi ▸ (hw h hh).1))
/-- The numbers turn, nothing else; each in its own struct. -/
theorem act_nums {B g h k : Nat} {most : Int} {w wc w5 w6 : World} {okq okw : Nat → Prop} {L : List (List Int)} {dl : Nat} {pl' ac' : Nat}
    (hd : ∀ j, okq j → ¬ okw j) (hq : ∀ j, okq j → B ≤ j ∧ j < wc.heap.size) (hw : ∀ j, okw j → B ≤ j ∧ j < wc.heap.size) (hB : B ≤ wc.heap.size) (hg : okq g)
    (hQ : IsQ okq w5 B g most (L.drop dl) ((L.take dl).drop pl') ((dl : Int) - ac')) (hc5 : Chg (fun j => j = g) wc w5)
    (hW : IsW okw w6 B h most L dl pl' ac') (hc6 : Chg (fun j => j = h) w5 w6) (hh : okw h) (hb : Below B w wc) (ha : ac' ≤ dl ∧ pl' ≤ dl ∧ dl ≤ L.length ∧ L.length ≤ k) (hmo : (L.length : Int) - ac' ≤ most) : ActRel B g h most (k + 1) w w6 := by
  have hs5 := hc5.size
  have hs6 := hc6.size
  exact ⟨okq, okw, L, dl, pl', ac', hd, fun j hj => by have := hq j hj; omega, fun j hj => by have := hw j hj; omega, hQ.chg hc6 (fun j hj _ hn => by subst hn; exact hd j hj hh), hW,
    (hb.trans (hc5.below hB (fun i hi => hi ▸ (hq g hg).1))).trans (hc6.below (by omega) (fun i hi => hi ▸ (hw h hh).1)), ha.1, ha.2.1, ha.2.2.1, by omega, hmo⟩
theorem act_ack {B g h k : Nat} {most na : Int} {w wc w5 w6 : World} {okq okw : Nat → Prop} {L : List (List Int)} {dl pl ac n1 : Nat}
    (hd : ∀ j, okq j → ¬ okw j) (hq : ∀ j, okq j → B ≤ j ∧ j < wc.heap.size) (hw : ∀ j, okw j → B ≤ j ∧ j < wc.heap.size) (hB : B ≤ wc.heap.size) (hg : okq g)
    (hQ : IsQ okq w5 B g most (L.drop dl) ((L.take dl).drop pl) (ackD na ((dl : Int) - ac))) (hc5 : Chg (fun j => j = g) (wc.drewN n1) w5)
    (hW : IsW okw w6 B h most L dl pl (wackA na dl ac)) (hc6 : Chg (fun j => j = h) w5 w6) (hh : okw h) (hb : Below B w wc) (ha : ac ≤ dl ∧ pl ≤ dl ∧ dl ≤ L.length ∧ L.length ≤ k) (hmo : (L.length : Int) - ac ≤ most) : ActRel B g h most (k + 1) w w6 := by
  have hc5' : Chg (fun j => j = g) wc w5 := ⟨hc5.os, hc5.tape, hc5.output, hc5.size, hc5.block⟩
  have key : ∃ a' : Nat, wackA na dl ac = a' ∧ ackD na ((dl : Int) - ac) = (dl : Int) - a' ∧ ac ≤ a' ∧ a' ≤ dl := by
    unfold wackA ackD
    by_cases h1 : na < 0
    · rw [if_pos h1, if_pos h1]; exact ⟨ac, rfl, rfl, by omega, by omega⟩
    · rw [if_neg h1, if_neg h1]
      by_cases h2 : na > (dl : Int) - ac
      · rw [if_pos h2, if_pos h2]; exact ⟨ac, rfl, rfl, by omega, by omega⟩
      · rw [if_neg h2, if_neg h2]; exact ⟨ac + na.toNat, by omega, by omega, by omega, by omega⟩
  obtain ⟨a', h1, h2, h3, h4⟩ := key
  rw [h1] at hW
  rw [h2] at hQ
  exact act_nums hd hq hw hB hg (pl' := pl) (ac' := a') hQ hc5' hW hc6 hh hb ⟨h4, ha.2.1, ha.2.2.1, ha.2.2.2⟩ (by omega)
/-- Element i of the acts. -/
theorem act_at {w : World} {A : Option Addr} {n : Nat} {row : List (Int × List Int × Int)} (h : DA.C w A n row) (i : Nat) (hi : i < n) :
    ∃ ad what x na Ai ci, A = some ad ∧ x.length ≤ ci ∧ (Kd.int .u8).C w Ai x.length x ∧ w.cell? (ad.add (i * 3)) = some (.int .i64 what) ∧
      w.cell? ⟨(ad.add (i * 3)).block, (ad.add (i * 3)).off + 1, none⟩ = some (.slice Ai x.length ci) ∧ w.cell? ⟨(ad.add (i * 3)).block, (ad.add (i * 3)).off + 2, none⟩ = some (.int .i64 na) := by
  obtain ⟨ad, c, hA, hcl, hK, hcell⟩ := Kd.C_get h (0, [], 0) (i : Int) (by omega) (by omega)
  obtain ⟨c0, c1, rfl, h0, c2, c3, rfl, h2, h3⟩ := hK
  obtain ⟨Ai, ci, rfl, hle, hC⟩ := h2
  have h0' : c0 = [.int .i64 (row.getD (i : Int).toNat (0, [], 0)).1] := h0
  have h3' : c3 = [.int .i64 (row.getD (i : Int).toNat (0, [], 0)).2.2] := h3
  subst h0' h3'
  have hsz : DA.sz = 3 := rfl
  rw [hsz] at hcell
  have e0 := hcell 0 _ rfl
  have e1 := hcell 1 _ rfl
  have e2 := hcell 2 _ rfl
  rw [add_field _ _ 1 (by omega)] at e1
  rw [add_field _ _ 2 (by omega)] at e2
  exact ⟨ad, _, _, _, Ai, ci, hA, hle, hC, by simpa using e0, by simpa using e1, by simpa using e2⟩

set_option maxHeartbeats 6400000 in
set_option maxRecDepth 100000 in
theorem acts_any (most : Int) (w : World) (A : Option Addr) (n c : Nat) (row : List (Int × List Int × Int)) (hC : DA.C w A n row) (hn : n ≤ 140737488351232) (hw : (Lit.int .i64 most).wf = true) :
    Calls Try.prog 6 #[.int .i64 most, .slice A n c] w fun e w' => e = .returned (.bool true) ∧ Below w.heap.size w w' := by
  have HC := Aside0.mk hC
  clear hC
  go_enter Try.func6, Try.ntmps6
  go_wp2_with (first | (go_at_call 19; refine (none_any _).mono ?_; rintro e w' ⟨rfl, rfl⟩) | (go_at_call 15; refine (nil_poll _).mono ?_; rintro e w' ⟨rfl, rfl⟩))
  refine (queues_any w).mono ?_
  rintro e w2 ⟨rfl, hBl⟩
  have HB2 := Aside0.mk hBl
  clear hBl
  go_upto_region 4 with (first | (go_at_call 19; refine (none_any _).mono ?_; rintro e w' ⟨rfl, rfl⟩) | (go_at_call 13; refine (nil_send _ _ _ _).mono ?_; rintro e w' ⟨rfl, rfl⟩) | (go_at_call 14; refine (nil_deliver _).mono ?_; rintro e w' ⟨rfl, rfl⟩) | (go_at_call 18; refine (nil_ack _ _).mono ?_; rintro e w' ⟨rfl, rfl⟩) | (go_at_call 17; refine (nil_kept _).mono ?_; rintro e w' ⟨rfl, rfl⟩) | (go_at_call 16; refine (nil_under _).mono ?_; rintro e w' ⟨rfl, rfl⟩) | (go_at_call 20; refine (nil_waiting _).mono ?_; rintro e w' ⟨rfl, rfl⟩))
  by_cases hm : most < 1 ∨ most > 64
  · go_wp2_with fail
    refine (new_bad most _ hm).mono ?_
    rintro e w3 ⟨rfl, rfl⟩
    by_cases hm1 : most < 1
    · go_wp2
      go_ret
      exact ⟨rfl, HB2.out⟩
    · have hm2 : decide (most < 1) = false := by simpa using hm1
      have hm3 : (64 : Int) < most := by omega
      go_wp2
      go_ret
      exact ⟨rfl, HB2.out⟩
  · have hm1 : ¬ most < 1 := by omega
    have hm2 : ¬ (64 : Int) < most := by omega
    have hm3 : decide (most < 1) = false := by simpa using hm1
    go_wp2_with fail
    refine (new_any most _ (by omega) (by omega)).mono ?_
    rintro e w3 ⟨g, rfl, hI, hBl⟩
    have HI3 := Aside0.mk hI
    have HB3 := Aside0.mk (HB2.out.trans (hBl.mono HB2.out.size))
    have hs3 := HB3.out.size
    clear hI hBl hm
    go_wp2_with fail
    go_loopw [10] (fun i wr => ∃ k : Nat, i = .int .i64 k ∧ k ≤ 60 ∧ ActRel w.heap.size g w3.heap.size most k w wr) (fun i _ => 60 - (intOf i).toNat)
    case atStart =>
      have hz := HB3.out.size
      refine ⟨0, rfl, by omega, fun j => w.heap.size ≤ j ∧ j < w3.heap.size, fun j => j = w3.heap.size, [], 0, 0, 0, fun j hj he => by omega, fun j hj => ⟨hj.1, by simp; omega⟩, fun j hj => ⟨by omega, by simp; omega⟩, ?_, ?_, ?_, by omega, by omega, by simp, by simp, by simp; omega⟩
      · exact ((HI3.out.lower HB2.out.size).bound.mono (fun j hj => ⟨hj.2.1, hj.2.2⟩)).below (below_alloc (Below.refl _ _) _)
      · exact ⟨_, by simpa using heap_alloc_new w3 _, hz, rfl, Kd.Q_nil _ _ _ _ _⟩
      · exact below_alloc HB3.out _
    case round =>
      obtain ⟨k, rfl, hk60, hR⟩ := hrel
      have HR := Aside0.mk hR
      clear hR
      by_cases hlt : k < n ∧ k < 60
      · obtain ⟨hkn, hk6⟩ := hlt
        have hkn' : (k : Int) < (n : Int) := by omega
        have hk6' : (k : Int) < 60 := by omega
        have hkd : decide ((k : Int) < (n : Int)) = true := by simpa using hkn
        have hbl : Below w.heap.size w wr := by obtain ⟨_, _, _, _, _, _, _, _, _, _, _, h, _⟩ := HR.out; exact h
        obtain ⟨ad, what, x, na, Ai, ci, rfl, hxc, hCx, e0, e1, e2⟩ := act_at HC.out k hkn
        have d0 := cell_later hbl e0
        have d1 := cell_later hbl e1
        have d2 := cell_later hbl e2
        have HCx := Aside0.mk hCx
        have HBl := Aside0.mk hbl
        clear hCx hbl e0 e1 e2
        go_upto_region 12 with fail
        go_cut [96] (fun s96 wx => ∃ r : Nat, r < 5 ∧ s96 = .int .i64 r ∧ wx = wr.alloc (.cells #[.int .i64 what, .slice Ai x.length ci, .int .i64 na] 47))
        case first =>
          go_wp2_with fail
          go_meet
          have hb := u64_wrap_nonneg what
          refine ⟨((IntKind.u64.wrap what).tmod 5).toNat, ?_, ?_, rfl⟩
          · rw [Int.tmod_eq_emod_of_nonneg hb]; omega
          · rw [Int.tmod_eq_emod_of_nonneg hb]; congr 1; rw [IntWalk.wrap64_in _ (by omega)]; omega
        case rest =>
          obtain ⟨r, hr5, rfl, rfl⟩ := hcut
          have HR1 := Aside0.mk (act_alloc HR.out (.cells #[.int .i64 what, .slice Ai x.length ci, .int .i64 na] 47))
          have b0 : (wr.alloc (.cells #[.int .i64 what, .slice Ai x.length ci, .int .i64 na] 47)).cell? ⟨wr.heap.size, 0, none⟩ = some (.int .i64 what) := by simp
          have b1 : (wr.alloc (.cells #[.int .i64 what, .slice Ai x.length ci, .int .i64 na] 47)).cell? ⟨wr.heap.size, 1, none⟩ = some (.slice Ai x.length ci) := by simp
          have b2 : (wr.alloc (.cells #[.int .i64 what, .slice Ai x.length ci, .int .i64 na] 47)).cell? ⟨wr.heap.size, 2, none⟩ = some (.int .i64 na) := by simp
          obtain ⟨W1, hW1⟩ : ∃ W1, wr.alloc (.cells #[.int .i64 what, .slice Ai x.length ci, .int .i64 na] 47) = W1 := ⟨_, rfl⟩
          have HCx1 := Aside0.mk (show (Kd.int .u8).C W1 Ai x.length x from hW1 ▸ Kd.C_below HCx.out (below_alloc HBl.out _))
          rw [hW1] at b0 b1 b2 HR1 ⊢
          have HW1 := Aside0.mk hW1
          have b1s : ∀ o, (W1.alloc o).cell? ⟨wr.heap.size, 1, none⟩ = some (.slice Ai x.length ci) := fun o => Lib.cell?_alloc_some _ b1
          have HRL := Aside0.mk (show wr.heap.size < W1.heap.size by rw [← hW1]; simp)
          have HRG := Aside0.mk (show g < wr.heap.size by obtain ⟨okq, _, _, _, _, _, _, hbq, _, hQ, _⟩ := HR.out; exact (hbq g (by obtain ⟨_, _, _, _, h, _⟩ := hQ; exact h)).2)
          have HRS := Aside0.mk (show w3.heap.size < wr.heap.size by obtain ⟨_, okw, _, _, _, _, _, _, hbw, _, hW, _⟩ := HR.out; exact (hbw _ (by obtain ⟨_, _, _, h, _⟩ := hW; exact h)).2)
          clear hW1 HR d0 d1 d2
          go_upto_block 2 with fail
          go_cut [] (fun wx => ActRel w.heap.size g w3.heap.size most (k + 1) w wx)
          case first =>
            go_upto_if 97 with fail
            go_cut [97] (fun s97 wx => s97 = .bool (decide (r ≤ 1)) ∧ wx = W1)
            case first =>
              by_cases h0 : r = 0
              · subst h0
                go_wp2_with fail
                go_meet
                exact ⟨rfl, rfl⟩
              · have h0' : ((r : Int) == 0) = false := by simp; omega
                go_wp2_with fail
                go_meet
                exact ⟨congrArg Value.bool (by rw [Bool.eq_iff_iff]; simp; omega), rfl⟩
            case rest =>
              obtain ⟨rfl, rfl⟩ := hcut
              by_cases hr1 : r ≤ 1
              · have hd1 : decide (r ≤ 1) = true := by simpa using hr1
                obtain ⟨m, hm66⟩ : ∃ m : Nat, m = min x.length 66 := ⟨_, rfl⟩
                have hmin : (if (66 : Int) < (x.length : Int) then (66 : Int) else (x.length : Int)) = (m : Int) := by split <;> omega
                have hmx : m ≤ x.length := by omega
                have hm6 : m ≤ 66 := by omega
                have hmc : (m : Int) ≤ (ci : Int) := by omega
                have HM := Aside0.mk (head_C2 HCx1.out hmx)
                have hml : (x.take m).length = m := by rw [List.length_take]; omega
                obtain ⟨y, hy⟩ : ∃ y, x.take m = y := ⟨_, rfl⟩
                rw [hy] at hml HM
                clear hm66 hy
                go_wp2_with (at_builtin; refine Kd.R_append_rows (Kd.int .u8) (w0 := wc) wc.heap.size rfl _ _ _ _ (.int .u8 0) 1 rfl Try.underlying34 Try.info5 rfl (by decide) (by decide) (.slice (some ⟨wc.heap.size, 0, none⟩) 0 0) [] y Ai m ci (fun k => wc.heap.size ≤ k) (fun _ => False) rfl rfl (Kd.R_of_own (World.ownsRow_made wc #[] 0 (Nat.le_refl _) (Nat.zero_le _) rfl) (fun k hk => by simp [Value.ownBlock] at hk; omega)) (Kd.C_below HM.out (below_alloc (Below.refl _ _) _)) (fun x cs h => h) (fun _ hk => hk.elim) (fun k hk => by simp at hk; omega) (below_alloc (Below.refl _ _) _) (by simp) (by simp; omega) ?_)
                intro v1 w4 hRm hB4 hG4 hat4
                have hB4' : Below wc.heap.size wc w4 := hB4
                obtain ⟨A', c', hv⟩ := Kd.R_slice hRm
                rw [hml] at hv
                subst hv
                obtain ⟨okq, okw, L, dl, pl, ac, hdis, hbq, hbw, hQ, hW, hBw, ha1, ha2, ha3, ha4, ha5⟩ := HR1.out
                have HQ4 := Aside0.mk (hQ.below hB4')
                have HW4 := Aside0.mk (hW.below hB4')
                have HBw := Aside0.mk (hBw.trans (hB4'.mono hBw.size))
                have HD := Aside0.mk hdis
                have HBQ := Aside0.mk hbq
                have HBW := Aside0.mk hbw
                have HRm := Aside0.mk hRm
                have hs4 := hB4'.size
                have hsw := hBw.size
                clear hdis hbq hbw hQ hW hBw hRm hB4 hG4 hat4 hB4'
                have HCm := Aside0.mk (show (Kd.int .u8).C w4 A' m y by
                  obtain ⟨A2, c2, he, _, hC2⟩ := Kd.R_reads HRm.out
                  injection he with h1 h2 h3
                  subst h1
                  rw [hml] at hC2
                  exact hC2)
                have HRm2 := Aside0.mk (show (Kd.int .u8).R 5 w4 w.heap.size (fun j => wc.heap.size ≤ j ∧ j < w4.heap.size) (.slice A' m c') y from
                  Kd.R_mono (Kd.R_lower (Kd.R_bound HRm.out) hsw) (fun j hj => ⟨hj.1, hj.2.2.1⟩))
                go_upto_region 16 with fail
                go_cut [115] (fun s115 wx => s115 = .bool false ∧ ActRow w.heap.size g w3.heap.size most (k + 1) w wx (.slice A' m c') m)
                case first =>
                  by_cases hm64 : 64 < m
                  · go_wp2_with fail
                    refine (send_long A' m c' hm64 (ok := okq) (base := w.heap.size) (most := most) (d := 0) (U := []) (W := [])).mono ?_
                    rintro e w5 ⟨rfl, rfl⟩
                    go_wp2_with fail
                    refine (docSend_long A' m c' hm64).mono ?_
                    rintro e w5 ⟨rfl, rfl⟩
                    go_wp2_with fail
                    go_meet
                    exact ⟨rfl, ActRow.same HD.out HBQ.out HBW.out (fun j hj => hj) hs4 HQ4.out HW4.out ⟨0, rfl⟩ HBw.out ⟨ha1, ha2, ha3, ha4⟩ ha5 hml HRm2.out⟩
                  · have hlen : (L.drop dl).length ≤ 1000000 := by simp; omega
                    by_cases hfull : (L.length : Int) - ac = most
                    · have HF := Aside0.mk hfull
                      have hge : (L.length : Int) - ac ≥ most := by omega
                      have hfq : ((L.drop dl).length : Int) + ((dl : Int) - ac) = most := by simp; omega
                      have HFQ := Aside0.mk hfq
                      clear hfull hfq
                      go_wp2_with fail
                      refine (send_full A' m c' (by omega) HQ4.out hlen (by omega) (by omega) HFQ.out).mono ?_
                      rintro e w5 ⟨rfl, q5, hw5⟩
                      have HW5 := Aside0.mk (show IsW okw w5 w.heap.size w3.heap.size most L dl pl ac from hw5 ▸ HW4.out.drewN q5)
                      have H5 := Aside0.mk hw5
                      clear hw5
                      go_wp2_with fail
                      refine (docSend_full A' m c' (by omega) HW5.out hge (by omega) (by omega) (by omega)).mono ?_
                      rintro e w6 ⟨rfl, q6, hw6⟩
                      have H6 := Aside0.mk (show ∃ n, w6 = w4.drewN n from ⟨q5 + q6, by rw [hw6, H5.out, World.drewN_drewN]⟩)
                      clear hw6
                      go_wp2_with fail
                      go_meet
                      exact ⟨rfl, ActRow.same HD.out HBQ.out HBW.out (fun j hj => hj) hs4 HQ4.out HW4.out H6.out HBw.out ⟨ha1, ha2, ha3, ha4⟩ ha5 hml HRm2.out⟩
                    · have HF := Aside0.mk hfull
                      have hge : ¬ (L.length : Int) - ac ≥ most := by omega
                      have HFQ := Aside0.mk (show ((L.drop dl).length : Int) + ((dl : Int) - ac) ≠ most by simp; omega)
                      clear hfull
                      go_wp2_with fail
                      refine (send_ok A' m c' y (by omega) HCm.out HQ4.out (by omega) hlen (by omega) (by omega) HFQ.out).mono ?_
                      rintro e w5 ⟨rfl, hQ5, hC5⟩
                      have HQ5 := Aside0.mk hQ5
                      have HC5 := Aside0.mk hC5
                      have hs5 := hC5.size
                      have HW5 := Aside0.mk (HW4.out.chg hC5 (fun j hj _ hn => HD.out j hn hj))
                      have HCm5 := Aside0.mk (show (Kd.int .u8).C w5 A' m y by
                        have hRm5 := Kd.R_step HRm2.out (fun j hj hl => hC5.block j hl (fun h => by have := (HBQ.out j h).2; omega))
                        obtain ⟨A2, c2, he, _, hC2⟩ := Kd.R_reads hRm5
                        injection he with h1 h2 h3
                        subst h1
                        rw [hml] at hC2
                        exact hC2)
                      clear hQ5 hC5
                      go_wp2_with fail
                      refine (docSend_ok A' m c' y (by omega) HCm5.out HW5.out (by omega) (by omega) (by omega) (by omega) (by omega)).mono ?_
                      rintro e w6 ⟨rfl, hW6, hC6⟩
                      have HW6 := Aside0.mk hW6
                      have HC6 := Aside0.mk hC6
                      clear hW6 hC6
                      go_wp2_with fail
                      go_meet
                      exact ⟨rfl, ActRow.send HD.out HBQ.out HBW.out (fun j hj => hj) hs4 (by omega) HQ5.out HC5.out HW6.out HC6.out HBw.out ⟨ha1, ha2, ha3, ha4⟩ (by omega) hml HRm2.out⟩
                case rest =>
                  obtain ⟨rfl, hRow⟩ := hcut
                  have HRow := Aside0.mk hRow
                  clear hRow HRm2 HRm HCm HQ4 HW4 HBw HD HBQ HBW
                  go_wp2_with fail
                  go_loopw [13] (fun i wx => ∃ q : Nat, i = .int .i64 q ∧ q ≤ m ∧ ActRow w.heap.size g w3.heap.size most (k + 1) w wx (.slice A' m c') m) (fun i _ => m - (intOf i).toNat)
                  case atStart => exact ⟨0, rfl, by omega, HRow.out⟩
                  case round =>
                    obtain ⟨q, rfl, hqm, hRq⟩ := hrel
                    have HRq := Aside0.mk hRq
                    clear hRq
                    by_cases hq : q < m
                    · have hq' : (q : Int) < (m : Int) := by omega
                      obtain ⟨b, rfl⟩ := ActRow.form HRq.out (by omega)
                      obtain ⟨z, hz, hzf⟩ := ActRow.at_ HRq.out q hq
                      go_wp2_with fail
                      go_roundw
                      case rel => exact ⟨q + 1, by go_num, by omega, ActRow.put HRq.out q _⟩
                      case measure => simp [intOf]; omega
                    · have hq' : ¬ (q : Int) < (m : Int) := by omega
                      go_wp2_with fail
                      go_meet
                      exact ActRow.rel HRq.out
              · have hd1 : decide (r ≤ 1) = false := by simpa using hr1
                obtain ⟨okq, okw, L, dl, pl, ac, hdis, hbq, hbw, hQ, hW, hBw, ha1, ha2, ha3, ha4, ha5⟩ := HR1.out
                have hokg : okq g := by obtain ⟨_, _, _, _, h, _⟩ := hQ; exact h
                have hokh : okw w3.heap.size := by obtain ⟨_, _, _, h, _⟩ := hW; exact h
                have HOG := Aside0.mk hokg
                have HOH := Aside0.mk hokh
                have HQ1 := Aside0.mk hQ
                have HWW := Aside0.mk hW
                have HBw := Aside0.mk hBw
                have HD := Aside0.mk hdis
                have HBQ := Aside0.mk hbq
                have HBW := Aside0.mk hbw
                have hBs : w.heap.size ≤ wc.heap.size := hBw.size
                clear hokg hokh hQ hW hBw hdis hbq hbw
                by_cases hr2 : r = 2
                · subst hr2
                  by_cases hdl : dl = L.length
                  · have hU : L.drop dl = [] := by rw [hdl, List.drop_length]
                    have hI := HQ1.out
                    rw [hU] at hI
                    have HI := Aside0.mk hI
                    have HDL := Aside0.mk (show (dl : Int) = L.length by omega)
                    clear hU hI hdl
                    go_wp2_with fail
                    refine (deliver_none HI.out).mono ?_
                    rintro e w5 ⟨rfl, rfl⟩
                    go_wp2_with fail
                    refine (docDeliver_end HWW.out (by omega) (by omega) HDL.out).mono ?_
                    rintro e w6 ⟨rfl, hW6, hC6⟩
                    have HW6 := Aside0.mk hW6
                    have HC6 := Aside0.mk hC6
                    clear hW6 hC6
                    go_wp2_with fail
                    go_meet
                    exact act_nums HD.out HBQ.out HBW.out hBs HOG.out HQ1.out (Chg.refl _ _) HW6.out HC6.out HOH.out HBw.out ⟨ha1, ha2, ha3, ha4⟩ ha5
                  · have hlt2 : dl < L.length := by omega
                    have hU : L.drop dl = L[dl] :: L.drop (dl + 1) := List.drop_eq_getElem_cons hlt2
                    have hI := HQ1.out
                    rw [hU] at hI
                    have HI := Aside0.mk hI
                    have HDL := Aside0.mk (show ¬ (dl : Int) = L.length by omega)
                    have hlW : ((L.take dl).drop pl).length ≤ 1000000 := by simp; omega
                    clear hU hI hdl
                    go_wp2_with fail
                    refine (deliver_some HI.out hBs (by omega) (by omega) hlW).mono ?_
                    rintro e w5 ⟨rfl, hQ5, hC5⟩
                    have HQ5 := Aside0.mk hQ5
                    have HC5 := Aside0.mk hC5
                    have HW5 := Aside0.mk (HWW.out.chg hC5 (fun j hj _ hn => HD.out j hn hj))
                    clear hQ5 hC5
                    go_wp2_with fail
                    refine (docDeliver_go HW5.out (by omega) (by omega) HDL.out).mono ?_
                    rintro e w6 ⟨rfl, hW6, hC6⟩
                    have HW6 := Aside0.mk hW6
                    have HC6 := Aside0.mk hC6
                    clear hW6 hC6
                    go_wp2_with fail
                    go_meet
                    exact act_deliver HD.out HBQ.out HBW.out hBs HQ5.out HC5.out (by rw [List.take_succ_eq_append_getElem hlt2, List.drop_append_of_le_length (by rw [List.length_take]; omega)]) HW6.out HC6.out HOH.out HBw.out ⟨ha1, ha2, hlt2, ha4⟩ ha5
                · by_cases hr3 : r = 3
                  · subst hr3
                    by_cases hpl : pl = dl
                    · have hV : (L.take dl).drop pl = [] := by apply List.drop_eq_nil_of_le; rw [List.length_take]; omega
                      have hI := HQ1.out
                      rw [hV] at hI
                      have HI := Aside0.mk hI
                      have HPL := Aside0.mk (show (pl : Int) = (dl : Int) by omega)
                      have hcn : ∀ q, (convert 34 9 (.slice none 0 0)).run Try.prog (wc.drewN q) = .ok (.string (strOfNums [])) (wc.drewN q) := fun q => Kd.C_string Try.underlying34 Try.underlying5 Try.underlying9 ⟨rfl, Nat.zero_le _, fun hp => absurd hp (Nat.lt_irrefl 0)⟩
                      clear hV hI hpl
                      go_wp2_with fail
                      refine (poll_none HI.out).mono ?_
                      rintro e w5 ⟨rfl, rfl⟩
                      go_wp2_with fail
                      refine (docPoll_none HWW.out HPL.out).mono ?_
                      rintro e w6 ⟨rfl, q6, rfl⟩
                      go_wp2_with fail
                      go_meet
                      exact act_nums HD.out HBQ.out HBW.out hBs HOG.out HQ1.out (Chg.refl _ _) (HWW.out.drewN q6) ((Chg.refl _ _).drewN q6) HOH.out HBw.out ⟨ha1, ha2, ha3, ha4⟩ ha5
                    · have hpl4 : pl < L.length := by omega
                      have hlt3 : pl < (L.take dl).length := by rw [List.length_take]; omega
                      have hV : (L.take dl).drop pl = L.getD pl [] :: (L.take dl).drop (pl + 1) := by
                        rw [List.drop_eq_getElem_cons hlt3, List.getElem_take, List.getD_eq_getElem?_getD, List.getElem?_eq_getElem hpl4]; rfl
                      obtain ⟨z, hz⟩ : ∃ z, L.getD pl [] = z := ⟨_, rfl⟩
                      have hI := HQ1.out
                      rw [hV, hz] at hI
                      have HI := Aside0.mk hI
                      have HPL := Aside0.mk (show (pl : Int) ≠ (dl : Int) by omega)
                      have HZ := Aside0.mk hz
                      have HV := Aside0.mk hV
                      clear hV hI hpl hz
                      go_wp2_with fail
                      refine (poll_some HI.out).mono ?_
                      rintro e w5 ⟨v5, rfl, hQ5, hR5, hC5⟩
                      obtain ⟨A5, c5, rfl, hl5, hC5'⟩ := Kd.R_reads hR5
                      have HQ5 := Aside0.mk hQ5
                      have HR5 := Aside0.mk hR5
                      have HC5 := Aside0.mk hC5
                      have HW5 := Aside0.mk (HWW.out.chg hC5 (fun j hj _ hn => HD.out g HOG.out (hn ▸ hj)))
                      clear hQ5 hR5 hC5 hC5'
                      go_wp2_with fail
                      refine (docPoll_at HW5.out HPL.out hpl4 (by omega) HZ.out).mono ?_
                      rintro e w6 ⟨A6, c6, rfl, hC6', hW6, hC6⟩
                      have hcz := fun q => Kd.C_string (dst := 9) Try.underlying34 Try.underlying5 Try.underlying9 (c := c6) (Kd.C_below hC6' (pw_below_drewN (Below.refl _ _) q))
                      have hRz := Kd.R_step HR5.out (w1 := w6) (fun j hj hl => hC6.block j hl (fun he => HD.out j hj (he ▸ HOH.out)))
                      have hCz : (Kd.int .u8).C w6 A5 z.length z := by
                        obtain ⟨A2, c2, he, _, hC2⟩ := Kd.R_reads hRz
                        injection he with h1 h2 h3
                        subst h1
                        exact hC2
                      have hcy := fun q => Kd.C_string (dst := 9) Try.underlying34 Try.underlying5 Try.underlying9 (c := c5) (Kd.C_below hCz (pw_below_drewN (Below.refl _ _) q))
                      have hcz0 := hcz 0
                      have hcy0 := hcy 0
                      rw [World.drewN_zero] at hcz0 hcy0
                      have HW6 := Aside0.mk hW6
                      have HC6 := Aside0.mk hC6
                      clear hW6 hC6 hC6' hRz hCz
                      go_wp2_with fail
                      go_meet
                      exact act_nums HD.out HBQ.out HBW.out hBs HOG.out (pl' := pl + 1) HQ5.out HC5.out (by simpa using HW6.out) HC6.out HOH.out HBw.out ⟨ha1, by have := HPL.out; omega, ha3, ha4⟩ ha5
                  · obtain rfl : r = 4 := by omega
                    have hbne : w3.heap.size ≠ wr.heap.size := fun he => by have h2 := (HBW.out _ HOH.out).2; have hW1' := HW1.out; have h3 := HRS.out; omega
                    have hgne : g ≠ wr.heap.size := fun he => by have h3 := HRG.out; omega
                    have hne : (ackR na ((dl : Int) - (ac : Int)) != wackR na (dl : Int) (ac : Int)) = false := by rw [show ackR na ((dl : Int) - (ac : Int)) = wackR na (dl : Int) (ac : Int) from rfl]; simp
                    go_wp2_with fail
                    go_region_held3 (fun w' => w'.cell? ⟨wr.heap.size, 2, none⟩ = some (.int .i64 na)) (first | go_keep)
                      (first
                        | (go_at_call 18
                           refine (ack_any na (HQ1.out.drewN 1) (by omega) (by omega)).mono ?_
                           rintro e w5 ⟨rfl, hQ5, hC5⟩
                           have hbx := (hC5.cell (p := ⟨wr.heap.size, 2, none⟩) (by have := HRL.out; simp; omega) (fun he => hgne he.symm)).trans b2
                           have HQ5 := Aside0.mk hQ5
                           have HC5 := Aside0.mk hC5
                           have HW5 := Aside0.mk ((HWW.out.drewN 1).chg hC5 (fun j hj _ hn => HD.out g HOG.out (hn ▸ hj)))
                           clear hQ5 hC5)
                        | (go_at_call 24
                           refine (docAck_any na HW5.out (by omega) (by omega) (by omega) (by omega)).mono ?_
                           rintro e w6 ⟨rfl, hW6, hC6⟩
                           have hby := (hC6.cell (p := ⟨wr.heap.size, 2, none⟩) (Nat.lt_of_lt_of_le HRL.out (show wc.heap.size ≤ w5.heap.size from HC5.out.size)) (fun he => hbne he.symm)).trans hbx
                           have HW6 := Aside0.mk hW6
                           have HC6 := Aside0.mk hC6
                           clear hW6 hC6))
                    go_wp2_with fail
                    go_meet
                    exact act_ack HD.out HBQ.out HBW.out hBs HOG.out HQ5.out HC5.out HW6.out HC6.out HOH.out HBw.out ⟨ha1, ha2, ha3, ha4⟩ ha5
          case rest =>
            obtain ⟨okq, okw, L, dl, pl, ac, hdis, hbq, hbw, hQ, hW, hBw, ha1, ha2, ha3, ha4, ha5⟩ := hcut
            have HRK := Aside0.mk (show ActRel w.heap.size g w3.heap.size most (k + 1) w wc from ⟨okq, okw, L, dl, pl, ac, hdis, hbq, hbw, hQ, hW, hBw, ha1, ha2, ha3, ha4, ha5⟩)
            have hk1 := fun q => kept_is (hQ.drewN q) (K := (L.length : Int) - ac) (by simp; omega) (by omega) (by omega) (by simp; omega)
            have hk2 := fun q => under_is (hQ.drewN q) (K := (L.length : Int) - dl) (by simp; omega)
            have hk3 := fun q => waiting_is (hQ.drewN q) (K := (dl : Int) - pl) (by simp; omega)
            obtain ⟨A9, c9, e90, e91, e92, e93, e94, _⟩ := hW.cells
            have H1 := Aside0.mk hk1
            have H2 := Aside0.mk hk2
            have H3 := Aside0.mk hk3
            clear hdis hbq hbw hQ hW hBw hk1 hk2 hk3
            go_wp2_with fail
            go_quiet ((first | (go_at_call 17; exact Calls.quiet_of (H1.out _)) | (go_at_call 16; exact Calls.quiet_of (H2.out _)) | (go_at_call 20; exact Calls.quiet_of (H3.out _))))
            go_wp2_with fail
            go_roundw
            case rel => exact ⟨k + 1, by go_num, by omega, act_below HRK.out (pw_below_drewN (Below.refl _ _) _)⟩
            case measure => simp [intOf]; omega
      · have hbl : Below w.heap.size w wr := by obtain ⟨_, _, _, _, _, _, _, _, _, _, _, h, _⟩ := HR.out; exact h
        have HBL := Aside0.mk hbl
        clear hbl HR
        by_cases hkn : (k : Int) < (n : Int)
        · have hk6 : ¬ (k : Int) < 60 := by omega
          have hkd : decide ((k : Int) < (n : Int)) = true := by simpa using hkn
          go_wp2_with fail
          go_ret
          exact ⟨rfl, HBL.out⟩
        · have hkd : decide ((k : Int) < (n : Int)) = false := by simpa using hkn
          go_wp2_with fail
          go_ret
          exact ⟨rfl, HBL.out⟩

end Go.Proofs.Ytfhfeelkjpcogaa.Fifo
