/- The wheel beside the document's list, in one world: what each call does to both. Each theorem says its own conditions. -/
import Derived.Test.YtjiligngjlejmaaTe
namespace Go.Proofs.Ytjiligngjlejmaa.Vit
open Go.Shelf Go.RowKit Go.Proofs.YtjiligngjlejmaaW.PrintWords Go.Proofs.YtjiligngjlejmaaW.PrintLast Go.Proofs.YtjiligngjlejmaaW.PrintMore Go.Proofs.Ytjiligngjlejmaa.Mem Go.Proofs.Ytjiligngjlejmaa.Srt
attribute [local go_sem] max2_int min2_int max_two min_two max_three min_three max_four min_four   -- for this text's walks alone
set_option linter.unusedVariables false
set_option linter.unusedSimpArgs false

set_option maxHeartbeats 800000 in
theorem nil_set (x y : Int) (w : World) : Calls Try.prog 8 #[.pointer none, .int .u16 x, .int .i64 y] w fun e w' => e = .returned (.int .i64 1) ∧ w' = w := by
  go_enter Try.func8, Try.ntmps8
  go_wp2
  all_goals go_ret
  all_goals exact ⟨rfl, rfl⟩
theorem nil_drop (x : Int) (w : World) : Calls Try.prog 12 #[.pointer none, .int .u16 x] w fun e w' => e = .returned (.int .i64 1) ∧ w' = w := by
  go_enter Try.func12, Try.ntmps12
  go_wp2
  all_goals go_ret
  all_goals exact ⟨rfl, rfl⟩
theorem nil_tick (w : World) : Calls Try.prog 9 #[.pointer none] w fun e w' => e = .returned (.slice none 0 0) ∧ w' = w := by
  go_enter Try.func9, Try.ntmps9
  go_wp2
  all_goals go_ret
  all_goals exact ⟨rfl, rfl⟩
theorem nil_now (w : World) : Calls Try.prog 13 #[.pointer none] w fun e w' => e = .returned (.int .i64 0) ∧ w' = w := by
  go_enter Try.func13, Try.ntmps13
  go_wp2
  all_goals go_ret
  all_goals exact ⟨rfl, rfl⟩
theorem nil_len (w : World) : Calls Try.prog 10 #[.pointer none] w fun e w' => e = .returned (.int .i64 0) ∧ w' = w := by
  go_enter Try.func10, Try.ntmps10
  go_wp2
  all_goals go_ret
  all_goals exact ⟨rfl, rfl⟩
theorem none_w (w : World) : Calls Try.prog 11 #[] w fun e w' => e = .returned (.pointer none) ∧ w' = w := by
  go_enter Try.func11, Try.ntmps11
  go_wp2
  all_goals go_ret
  all_goals exact ⟨rfl, rfl⟩
set_option maxHeartbeats 800000 in
/-- A number of ticks that is none. -/
theorem set_bad (b : Nat) (x k : Int) (w : World) (hk : k < 1 ∨ 1000 < k) : Calls Try.prog 8 #[.pointer (some ⟨b, 0, none⟩), .int .u16 x, .int .i64 k] w fun e w' => e = .returned (.int .i64 1) ∧ w' = w := by
  go_enter Try.func8, Try.ntmps8
  by_cases h1 : k < 1
  · go_wp2
    all_goals go_ret
    all_goals exact ⟨rfl, rfl⟩
  · have h2 : 1000 < k := by omega
    go_wp2
    all_goals go_ret
    all_goals exact ⟨rfl, rfl⟩
set_option maxHeartbeats 800000 in
theorem dropS (s0 : Nat) (W : World) (b m n now a : Nat) (s : St) (own : Nat → Nat) (h : IsS s0 W b m n now s own) (hn : n ≤ 1000000) (ha : a < 65536) :
    Calls Try.prog 12 #[.pointer (some ⟨b, 0, none⟩), .int .u16 (a : Int)] W fun e w' => e = .returned (.int .i64 (if (s.f a).isSome then 0 else 9)) ∧ IsS s0 w' b m n now (s.take1 a) own ∧ Chg (WS b m own) W w' := by
  have H := Aside0.mk (takesS s0 W b m n now a s own h hn ha)
  clear h
  obtain ⟨z, hz⟩ : ∃ z, (s.f a).isSome = z := ⟨_, rfl⟩
  rw [hz] at H ⊢
  clear hz
  go_enter Try.func12, Try.ntmps12
  cases z
  · go_wp2_with (go_at_call 17; refine H.out.mono ?_; rintro e w1 ⟨rfl, q1, q2⟩; have H1 := Aside0.mk (And.intro q1 q2); clear q1 q2)
    all_goals go_ret
    all_goals exact ⟨rfl, H1.out.1, H1.out.2⟩
  · go_wp2_with (go_at_call 17; refine H.out.mono ?_; rintro e w1 ⟨rfl, q1, q2⟩; have H1 := Aside0.mk (And.intro q1 q2); clear q1 q2)
    all_goals go_ret
    all_goals exact ⟨rfl, H1.out.1, H1.out.2⟩

/-- Both wheels, and blocks K that no call touches. -/
def Pair (K : Nat → Prop) (B b m d : Nat) (w wr : World) (n now dn : Nat) (s : St) (l : List (Nat × Nat)) : Prop :=
  ∃ (own : Nat → Nat) (okd : Nat → Prop), IsS B wr b m n now s own ∧ IsD B wr d dn l okd ∧ (∀ k, k < B → own k = 32) ∧ Below B w wr ∧ B ≤ wr.heap.size ∧ (∀ k, okd k → ¬ WS b m own k ∧ B ≤ k ∧ k < wr.heap.size) ∧ (¬ WS b m own d ∧ B ≤ d) ∧ (∀ k, wr.heap.size ≤ k → own k = 32) ∧
    ∀ k, K k → ¬ WS b m own k ∧ ¬ okd k ∧ k ≠ d ∧ k < wr.heap.size
/-- What no call touches. -/
def Same (K : Nat → Prop) (W W' : World) : Prop := ∀ k, K k → W'.heap[k]? = W.heap[k]?
theorem IsD.keep {s0 : Nat} {W W' : World} {b now : Nat} {l : List (Nat × Nat)} {ok S : Nat → Prop} (h : IsD s0 W b now l ok) (hC : Chg S W W') (hb : ¬ S b) (ho : ∀ k, ok k → ¬ S k) : IsD s0 W' b now l ok := by
  obtain ⟨⟨v, h1, h2⟩, h3⟩ := h
  exact ⟨⟨v, hC.keeps h1 hb, Kd.R_step h2 (fun j hj hlt => hC.block j hlt (ho j hj))⟩, h3⟩
theorem IsD.lt {s0 : Nat} {W : World} {b now : Nat} {l : List (Nat × Nat)} {ok : Nat → Prop} (h : IsD s0 W b now l ok) : b < W.heap.size := by
  obtain ⟨⟨v, h1, h2⟩, h3⟩ := h
  exact blk_lt h1
theorem IsD.bound {s0 : Nat} {W : World} {b now : Nat} {l : List (Nat × Nat)} {ok : Nat → Prop} (h : IsD s0 W b now l ok) : IsD s0 W b now l (fun k => ok k ∧ k < W.heap.size) := by
  obtain ⟨⟨v, h1, h2⟩, h3⟩ := h
  exact ⟨⟨v, h1, Kd.R_mono (Kd.R_bound h2) (fun k hk => ⟨hk.1, hk.2.2.1⟩)⟩, fun hk => h3 hk.1⟩
theorem IsS.reown {s0 : Nat} {W : World} {b m n now : Nat} {s : St} {own own' : Nat → Nat} (h : IsS s0 W b m n now s own) (ho : ∀ k, k < W.heap.size → own' k = own k) : IsS s0 W b m n now s own' := ⟨h.1.reown ho, h.2⟩
/-- A call of the wheel's: the list is as it was. -/
theorem Pair.wheel {K : Nat → Prop} {B b m d : Nat} {w wr w' : World} {n now dn n' now' : Nat} {s s' : St} {l : List (Nat × Nat)} {own own' : Nat → Nat} {okd : Nat → Prop} (hD : IsD B wr d dn l okd) (hS : IsS B wr b m n now s own) (hb32 : ∀ k, k < B → own k = 32) (hB : Below B w wr) (hsz : B ≤ wr.heap.size) (hok : ∀ k, okd k → ¬ WS b m own k ∧ B ≤ k ∧ k < wr.heap.size) (hd : ¬ WS b m own d ∧ B ≤ d)
    (hK : ∀ k, K k → ¬ WS b m own k ∧ ¬ okd k ∧ k ≠ d ∧ k < wr.heap.size) (hS' : IsS B w' b m n' now' s' own') (ho : ∀ k, k < wr.heap.size → own' k = own k) (hC : Chg (WS b m own) wr w') : Pair K B b m d w w' n' now' dn s' l ∧ Same K wr w' := by
  have hs := hC.size
  have hws : ∀ k, k < wr.heap.size → ¬ WS b m own k → ¬ WS b m (fun k => if k < w'.heap.size then own' k else 32) k := fun k hk hn hw => hn (by
    rcases hw with hw | hw | hw
    · exact .inl hw
    · exact .inr (.inl hw)
    · have h2 : (if k < w'.heap.size then own' k else 32) < 32 := hw
      rw [if_pos (by omega), ho k hk] at h2
      exact .inr (.inr h2))
  refine ⟨⟨fun k => if k < w'.heap.size then own' k else 32, okd, hS'.reown (fun k hk => if_pos hk), hD.keep hC hd.1 (fun k hk => (hok k hk).1), fun k hk => ?_, low_step hS hb32 hB hsz hC, by omega, fun k hk => ?_, ⟨hws d hD.lt hd.1, hd.2⟩, fun k hk => if_neg (by omega), fun k hk => ?_⟩, fun k hk => hC.block k (hK k hk).2.2.2 (hK k hk).1⟩
  · show (if k < w'.heap.size then own' k else 32) = 32
    rw [if_pos (by omega), ho k (by omega)]
    exact hb32 k hk
  · obtain ⟨h1, h2, h3⟩ := hok k hk
    exact ⟨hws k h3 h1, h2, by omega⟩
  · obtain ⟨h1, h2, h3, h4⟩ := hK k hk
    exact ⟨hws k h4 h1, h2, h3, by omega⟩
/-- A call of the list's: the wheel is as it was. -/
theorem Pair.doc {K S : Nat → Prop} {B b m d : Nat} {w wr w' : World} {n now dn' : Nat} {s : St} {l' : List (Nat × Nat)} {own : Nat → Nat} {okd okd' : Nat → Prop} (hS : IsS B wr b m n now s own) (hb32 : ∀ k, k < B → own k = 32) (hB : Below B w wr) (hsz : B ≤ wr.heap.size) (hok : ∀ k, okd k → ¬ WS b m own k ∧ B ≤ k ∧ k < wr.heap.size) (hd : ¬ WS b m own d ∧ B ≤ d) (hbig : ∀ k, wr.heap.size ≤ k → own k = 32)
    (hK : ∀ k, K k → ¬ WS b m own k ∧ ¬ okd k ∧ k ≠ d ∧ k < wr.heap.size) (hD' : IsD B w' d dn' l' okd') (hok' : ∀ k, okd' k → okd k ∨ wr.heap.size ≤ k) (hC : Chg S wr w') (hSS : ∀ k, S k → k = d ∨ okd k) : Pair K B b m d w w' n now dn' s l' ∧ Same K wr w' := by
  have hs := hC.size
  have hbl : b < wr.heap.size := by obtain ⟨X, h1, _⟩ := hS.1.blk; exact blk_lt h1
  have hml := hS.1.map.lt
  have hSw : ∀ k, S k → ¬ WS b m own k := fun k hk => by
    rcases hSS k hk with h | h
    · subst h; exact hd.1
    · exact (hok k h).1
  have hSB : ∀ k, S k → B ≤ k := fun k hk => by
    rcases hSS k hk with h | h
    · subst h; exact hd.2
    · exact (hok k h).2.1
  refine ⟨⟨own, _, ⟨hS.1.keepS hC (fun h => hSw b h (.inl rfl)) (fun h => hSw m h (.inr (.inl rfl))) (fun k hk => ?_), hS.2⟩, hD'.bound, hb32, hB.trans (hC.below hsz hSB), by omega, fun k hk => ?_, hd, fun k hk => hbig k (by omega), fun k hk => ?_⟩, fun k hk => hC.block k (hK k hk).2.2.2 (fun h => ?_)⟩
  · exact Nat.not_lt.1 (fun h => hSw k hk (.inr (.inr h)))
  · rcases hok' k hk.1 with h | h
    · obtain ⟨h1, h2, h3⟩ := hok k h
      exact ⟨h1, h2, hk.2⟩
    · refine ⟨fun hw => ?_, by omega, hk.2⟩
      rcases hw with hw | hw | hw
      · omega
      · omega
      · have := hbig k h
        omega
  · obtain ⟨h1, h2, h3, h4⟩ := hK k hk
    refine ⟨h1, fun h => ?_, h3, by omega⟩
    rcases hok' k h.1 with h | h
    · exact h2 h
    · omega
  · obtain ⟨h1, h2, h3, h4⟩ := hK k hk
    rcases hSS k h with h | h
    · exact h3 h
    · exact h2 h
/-- Nothing but what is new. -/
theorem Pair.below {K : Nat → Prop} {B b m d : Nat} {w wr w' : World} {n now dn : Nat} {s : St} {l : List (Nat × Nat)} (h : Pair K B b m d w wr n now dn s l) (hb : Below wr.heap.size wr w') : Pair K B b m d w w' n now dn s l := by
  obtain ⟨own, okd, h1, h2, h3, h4, h5, h6, h7, h8, h9⟩ := h
  have hs := hb.size
  exact ⟨own, okd, ⟨h1.1.below hb, h1.2⟩, h2.keep (Chg.of_below hb (fun _ => False)) (fun h => h) (fun _ _ h => h), h3, h4.trans (hb.mono h5), by omega, fun k hk => ⟨(h6 k hk).1, (h6 k hk).2.1, by have := (h6 k hk).2.2; omega⟩, h7, fun k hk => h8 k (by omega), fun k hk => ⟨(h9 k hk).1, (h9 k hk).2.1, (h9 k hk).2.2.1, by have := (h9 k hk).2.2.2; omega⟩⟩
theorem Pair.free {K : Nat → Prop} {B b m d : Nat} {w wr : World} {n now dn : Nat} {s : St} {l : List (Nat × Nat)} (h : Pair K B b m d w wr n now dn s l) : Pair (fun _ => False) B b m d w wr n now dn s l := by
  obtain ⟨own, okd, h1, h2, h3, h4, h5, h6, h7, h8, h9⟩ := h
  exact ⟨own, okd, h1, h2, h3, h4, h5, h6, h7, h8, fun k hk => hk.elim⟩
/-- A new block, that no call touches. -/
theorem Pair.alloc {B b m d : Nat} {w wr : World} {n now dn : Nat} {s : St} {l : List (Nat × Nat)} (h : Pair (fun _ => False) B b m d w wr n now dn s l) (o : Obj) : Pair (fun k => k = wr.heap.size) B b m d w (wr.alloc o) n now dn s l := by
  have h0 := h.below (below_alloc (Below.refl _ _) o)
  obtain ⟨own, okd, h1, h2, h3, h4, h5, h6, h7, h8, h9⟩ := h
  have hbl : b < wr.heap.size := by obtain ⟨X, h1, _⟩ := h1.1.blk; exact blk_lt h1
  have hml := h1.1.map.lt
  have hdl := h2.lt
  have hb := below_alloc (Below.refl wr.heap.size wr) o
  exact ⟨own, okd, ⟨h1.1.below hb, h1.2⟩, h2.keep (Chg.of_below hb (fun _ => False)) (fun h => h) (fun _ _ h => h), h3, h4.trans (hb.mono h5), by have := hb.size; omega, fun k hk => ⟨(h6 k hk).1, (h6 k hk).2.1, by have := (h6 k hk).2.2; have := hb.size; omega⟩, h7, fun k hk => h8 k (by have := hb.size; omega), fun k hk => by
    subst hk
    refine ⟨fun hw => ?_, fun hk => by have := (h6 _ hk).2.2; omega, by omega, by rw [World.size_alloc]; omega⟩
    rcases hw with hw | hw | hw
    · omega
    · omega
    · have := h8 _ (Nat.le_refl _)
      omega⟩
section
variable {K : Nat → Prop} {B b m d : Nat} {w W : World} {n now dn : Nat} {s : St} {l : List (Nat × Nat)}
theorem pair_set (h : Pair K B b m d w W n now dn s l) (a k : Nat) (ha : a < 65536) (hk : 1 ≤ k ∧ k ≤ 1000) (hn : n ≤ 1000000) (hnow : now ≤ 1000000) :
    Calls Try.prog 8 #[.pointer (some ⟨b, 0, none⟩), .int .u16 (a : Int), .int .i64 (k : Int)] W fun e w' => e = .returned (.int .i64 0) ∧ Pair K B b m d w w' (n + 1) now dn (s.put a (now + k)) l ∧ Same K W w' := by
  obtain ⟨own, okd, h1, h2, h3, h4, h5, h6, h7, h8, h9⟩ := h
  refine (setS B W b m n now a k s own h1 ha hk h5 hn hnow).mono ?_
  rintro e w' ⟨he, own', q1, q2, q3⟩
  exact ⟨he, Pair.wheel h2 h1 h3 h4 h5 h6 h7 h9 q2 q1 q3⟩
theorem pair_drop (h : Pair K B b m d w W n now dn s l) (a : Nat) (ha : a < 65536) (hn : n ≤ 1000000) :
    Calls Try.prog 12 #[.pointer (some ⟨b, 0, none⟩), .int .u16 (a : Int)] W fun e w' => e = .returned (.int .i64 (if (s.f a).isSome then 0 else 9)) ∧ Pair K B b m d w w' n now dn (s.take1 a) l ∧ Same K W w' := by
  obtain ⟨own, okd, h1, h2, h3, h4, h5, h6, h7, h8, h9⟩ := h
  refine (dropS B W b m n now a s own h1 hn ha).mono ?_
  rintro e w' ⟨he, q2, q3⟩
  exact ⟨he, Pair.wheel h2 h1 h3 h4 h5 h6 h7 h9 q2 (fun _ _ => rfl) q3⟩
theorem pair_tick (h : Pair K B b m d w W n now dn s l) (hn : n < 50) (hnow : now ≤ 1000000) (hr : Rel s l) :
    Calls Try.prog 9 #[.pointer (some ⟨b, 0, none⟩)] W fun e w' => ∃ u s', e = .returned u ∧ (Kd.int .u16).Q 29 w' W.heap.size (fun k => W.heap.size ≤ k) u (ints (srt (outs (now + 1) l))) ∧
      Pair K B b m d w w' n (now + 1) dn s' l ∧ Rel s' (lefts (now + 1) l) ∧ Same K W w' ∧ d < W.heap.size ∧ ∀ x, x ∈ srt (outs (now + 1) l) → x < 65536 := by
  obtain ⟨own, okd, h1, h2, h3, h4, h5, h6, h7, h8, h9⟩ := h
  have hp := hr.due_perm h1.2.1 (now + 1)
  have hrt := hr.tick h1.2.1 (now + 1)
  have hlen : (due s.f (now + 1) (s.L ((now + 1) % 32))).length < 50 := Nat.lt_of_le_of_lt (Nat.le_trans (List.length_filter_le _ _) (h1.2.2.1 _)) hn
  refine (tick_any B W b m n now s own h1 (by omega) hnow _ rfl hlen).mono ?_
  rintro e w' ⟨u, own', he, q0, q1, q2, q3⟩
  rw [srt_congr hp] at q0
  obtain ⟨p1, p2⟩ := Pair.wheel h2 h1 h3 h4 h5 h6 h7 h9 q2 q1 q3
  exact ⟨u, _, he, q0, p1, hrt, p2, h2.lt, fun x hx => h1.2.2.2 _ x (List.mem_filter.1 ((hp.mem_iff).2 ((srt_perm _).mem_iff.1 hx))).1⟩
theorem pair_docset (h : Pair K B b m d w W n now dn s l) (a k : Nat) (hl : l.length ≤ 1000000) (hk : dn + k ≤ 1000000000) :
    Calls Try.prog 14 #[.pointer (some ⟨d, 0, none⟩), .int .i64 (a : Int), .int .i64 (k : Int)] W fun e w' => e = .returned (.tuple #[]) ∧ Pair K B b m d w w' n now dn s (dropD a l ++ [(a, dn + k)]) ∧ Same K W w' := by
  obtain ⟨own, okd, h1, h2, h3, h4, h5, h6, h7, h8, h9⟩ := h
  refine (doc_set B W d dn a k l okd h2 hl h5 hk).mono ?_
  rintro e w' ⟨ok', he, q1, q2, q3⟩
  exact ⟨he, Pair.doc h1 h3 h4 h5 h6 h7 h8 h9 q1 q2 q3 (fun _ h => h)⟩
theorem pair_docdrop (h : Pair K B b m d w W n now dn s l) (a : Nat) (hl : l.length ≤ 1000000) :
    Calls Try.prog 15 #[.pointer (some ⟨d, 0, none⟩), .int .i64 (a : Int)] W fun e w' => e = .returned (.bool (l.any fun p => p.1 == a)) ∧ Pair K B b m d w w' n now dn s (dropD a l) ∧ Same K W w' := by
  obtain ⟨own, okd, h1, h2, h3, h4, h5, h6, h7, h8, h9⟩ := h
  refine (doc_drop B W d dn a l okd h2 hl h5).mono ?_
  rintro e w' ⟨ok', he, q1, q2, q3⟩
  exact ⟨he, Pair.doc h1 h3 h4 h5 h6 h7 h8 h9 q1 q2 q3 (fun _ h => .inl h)⟩
theorem pair_doctick (h : Pair K B b m d w W n now dn s l) (hl : l.length ≤ 1000000) (hn : dn ≤ 1000000) :
    Calls Try.prog 16 #[.pointer (some ⟨d, 0, none⟩)] W fun e w' => ∃ A c, e = .returned (.slice A (srt (outs (dn + 1) l)).length c) ∧ (Kd.int .i64).C w' A (srt (outs (dn + 1) l)).length (ints (srt (outs (dn + 1) l))) ∧
      Pair K B b m d w w' n now (dn + 1) s (lefts (dn + 1) l) ∧ Same K W w' ∧ Chg (fun k => k = d) W w' := by
  obtain ⟨own, okd, h1, h2, h3, h4, h5, h6, h7, h8, h9⟩ := h
  refine (doc_tick B W d dn l okd h2 hl h5 hn).mono ?_
  rintro e w' ⟨A, c, he, q0, q1, q3⟩
  obtain ⟨p1, p2⟩ := Pair.doc h1 h3 h4 h5 h6 h7 h8 h9 q1 (fun _ h => .inr h) q3 (fun _ h => .inl h)
  exact ⟨A, c, he, q0, p1, p2, q3⟩
theorem pair_now (h : Pair K B b m d w W n now dn s l) : Calls Try.prog 13 #[.pointer (some ⟨b, 0, none⟩)] W fun e w' => e = .returned (.int .i64 (now : Nat)) ∧ w' = W := by
  obtain ⟨own, okd, h1, _⟩ := h
  exact nowS B W b m n now s own h1
theorem pair_len (h : Pair K B b m d w W n now dn s l) (hr : Rel s l) : Calls Try.prog 10 #[.pointer (some ⟨b, 0, none⟩)] W fun e w' => e = .returned (.int .i64 (l.length : Nat)) ∧ w' = W := by
  obtain ⟨own, okd, h1, _⟩ := h
  rw [← hr.cnt]
  exact lenS B W b m n now s own h1
theorem pair_cells (h : Pair K B b m d w W n now dn s l) : ∃ A c, W.cell? ⟨d, 0, none⟩ = some (.int .i64 (dn : Int)) ∧ W.cell? ⟨d, 1, none⟩ = some (.slice A l.length c) := by
  obtain ⟨own, okd, h1, h2, _⟩ := h
  obtain ⟨⟨v, g1, g2⟩, g3⟩ := h2
  obtain ⟨A, c, rfl⟩ := Kd.R_slice g2
  rw [dz_len] at g1
  exact ⟨A, c, blk_cell g1 0, blk_cell g1 1⟩
end
end Go.Proofs.Ytjiligngjlejmaa.Vit
