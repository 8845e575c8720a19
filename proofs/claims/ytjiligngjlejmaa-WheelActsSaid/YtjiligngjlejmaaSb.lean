/- slices.Sort at numbers: reverseRange, siftDown, heapSort. Each theorem says its own conditions. -/
import Derived.Test.YtjiligngjlejmaaSa
import Derived.Sort.WalkB12
import Derived.Sort.WalkB2
import Derived.Sort.WalkB3
import Derived.BigQuiet
import Derived.CellFam
import Derived.Sort.WalkA
import Derived.Sort.WalkA6
namespace Go.Proofs.Ytjiligngjlejmaa.Srt
open Go.RowKit Go.Sort Go.Proofs.YtjiligngjlejmaaW.PrintWords Go.Proofs.YtjiligngjlejmaaW.PrintLast Go.Proofs.YtjiligngjlejmaaW.PrintMore
set_option linter.unusedVariables false
set_option linter.unusedSimpArgs false

set_option maxHeartbeats 3200000 in
set_option maxRecDepth 100000 in
theorem rev16 (blk off cap a b : Nat) (d : Array Int) (w : World) (hH : Holds e16 w blk off d) (hab : a ≤ b) (hb : b ≤ d.size) (hsz : d.size ≤ 1000000) :
    Calls Try.prog 28 #[.slice (some ⟨blk, off, none⟩) d.size cap, .int .i64 a, .int .i64 b] w fun e w' => e = .returned (.tuple #[]) ∧ At16 w blk off d (Sort.reverseRange d a b) w' := by
  have HH := Aside0.mk (At16.self hH)
  clear hH
  go_enter Try.func28, Try.ntmps28
  go_wp2
  go_loopw [6, 7] (fun vi vj wr => ∃ (i : Nat) (j : Int) (dj : Array Int), vi = .int .i64 i ∧ vj = .int .i64 j ∧ a ≤ i ∧ i ≤ b ∧ -1 ≤ j ∧ j < b ∧ At16 w blk off d dj wr ∧ reverseLoop i j.toNat dj = reverseLoop a (b - 1) d) (fun vi vj _ => (intOf vj + 1).toNat)
  case atStart => exact ⟨a, (b : Int) - 1, d, rfl, by go_num, Nat.le_refl _, hab, by omega, by omega, HH.out, by rw [show ((b : Int) - 1).toNat = b - 1 by omega]⟩
  case round =>
    obtain ⟨i, j, dj, rfl, rfl, hai, hib, hj1, hjb, hA, hO⟩ := hrel
    obtain ⟨G, hG⟩ : ∃ G : Nat → Int, ∀ t, G t = dj[t]! := ⟨fun t => dj[t]!, fun _ => rfl⟩
    have hcw : ∀ t, t < d.size → wr.cell? ⟨blk, off + t, none⟩ = some (.int .u16 (G t)) := fun t ht => by rw [hG]; exact hA.cell t ht
    have hfw : ∀ t, t < d.size → wr.frozen? ⟨blk, off + t, none⟩ = false := fun t ht => hA.frozen t ht
    have HO := Aside0.mk (And.intro hA (And.intro hO hG))
    clear hA hO hG
    by_cases hlt : (i : Int) < j
    · obtain ⟨k, rfl⟩ : ∃ k : Nat, j = (k : Int) := ⟨j.toNat, by omega⟩
      go_wp2
      go_region
      all_goals go_wp2
      have hsw := (HO.out.1.swap 0 i k (by omega) (by omega)).drewN 1
      rw [← HO.out.2.2, ← HO.out.2.2] at hsw
      exact ⟨⟨i + 1, (k : Int) - 1, swp dj i k, by go_num, rfl, by omega, by omega, by omega, by omega, hsw, by
        rw [← HO.out.2.1, show ((k : Int) - 1).toNat = k - 1 by omega, Int.toNat_natCast]
        conv => rhs; rw [reverseLoop, if_pos (show i < k by omega)]⟩, by simp only [intOf]; omega⟩
    · go_wp2
      go_end0
      have hr : dj = Sort.reverseRange d a b := by
        unfold Sort.reverseRange
        rw [← HO.out.2.1, reverseLoop, if_neg (by omega)]
      have hA := HO.out.1
      rw [hr] at hA
      exact ⟨rfl, hA⟩
set_option maxHeartbeats 3200000 in
set_option maxRecDepth 100000 in
theorem sift16 (blk off len cap : Nat) (d : Array Int) (hlen : d.size = len) (lo hi first : Nat) (w : World) (hH : Holds e16 w blk off d) (hlo : lo ≤ hi) (hb : first + hi ≤ d.size) (hsz : d.size ≤ 1000000) :
    Calls Try.prog 35 #[.slice (some ⟨blk, off, none⟩) len cap, .int .i64 lo, .int .i64 hi, .int .i64 first] w fun e w' => e = .returned (.tuple #[]) ∧ At16 w blk off d (Sort.siftDown ltInt hi first lo d) w' := by
  subst hlen
  have HH := Aside0.mk (At16.self hH)
  clear hH
  go_enter Try.func35, Try.ntmps35
  go_wp2
  go_loopw [8] (fun vr wr => ∃ (r : Nat) (dj : Array Int), vr = .int .i64 r ∧ r ≤ hi ∧ At16 w blk off d dj wr ∧ Sort.siftDown ltInt hi first r dj = Sort.siftDown ltInt hi first lo d) (fun vr _ => hi - (intOf vr).toNat)
  case atStart => exact ⟨lo, d, rfl, hlo, HH.out, rfl⟩
  case round =>
    obtain ⟨r, dj, rfl, hr, hA, hO⟩ := hrel
    obtain ⟨G, hG⟩ : ∃ G : Nat → Int, ∀ t, G t = dj[t]! := ⟨fun t => dj[t]!, fun _ => rfl⟩
    have hcw : ∀ t, t < d.size → wr.cell? ⟨blk, off + t, none⟩ = some (.int .u16 (G t)) := fun t ht => by rw [hG]; exact hA.cell t ht
    have hfw : ∀ t, t < d.size → wr.frozen? ⟨blk, off + t, none⟩ = false := fun t ht => hA.frozen t ht
    have HO := Aside0.mk (And.intro hA (And.intro hO hG))
    clear hA hO hG
    by_cases h1 : hi ≤ 2 * r + 1
    · have hs : dj = Sort.siftDown ltInt hi first lo d := by rw [← HO.out.2.1]; exact (sd_end ltInt dj h1).symm
      have hA := HO.out.1
      rw [hs] at hA
      have HA := Aside0.mk hA
      clear hA hs
      go_wp2
      go_end0
      exact ⟨rfl, HA.out⟩
    · obtain ⟨ch, hch⟩ : ∃ ch, 2 * r + 1 = ch := ⟨_, rfl⟩
      have e1 : 2 * (r : Int) + 1 = (ch : Int) := by omega
      go_upto_region 2 with fail
      have hchi : ch < hi := by omega
      have hrch : r < ch := by omega
      have hfr : first + r < d.size := by omega
      by_cases h2 : ch + 1 < hi
      · have h2i : (ch : Int) + 1 < (hi : Int) := by omega
        have d2 : decide ((ch : Int) + 1 < (hi : Int)) = true := decide_eq_true h2i
        cases hl : ltInt (G (first + ch)) (G (first + ch + 1))
        · have hl2 : 2 * r + 2 < hi → ltInt dj[first + (2 * r + 1)]! dj[first + (2 * r + 2)]! = false := fun _ => by
            rw [← HO.out.2.2, ← HO.out.2.2, show first + (2 * r + 1) = first + ch by omega, show first + (2 * r + 2) = first + ch + 1 by omega]
            exact hl
          have HL := Aside0.mk (And.intro hl2 hch)
          clear hl2 e1 hch
          go_wp2
          go_quiet (first | (go_at_call 30; refine Calls.quiet_of_same (less16 _ _ _)) | (go_at_call 30; exact (less16 _ _ _).mono (fun _ _ h => ⟨h.1, _, h.2⟩)))
          go_wp2
          cases hm : ltInt (G (first + r)) (G (first + ch))
          · go_quiet (first | (go_at_call 30; refine Calls.quiet_of_same (less16 _ _ _)) | (go_at_call 30; exact (less16 _ _ _).mono (fun _ _ h => ⟨h.1, _, h.2⟩)))
            have hs : dj = Sort.siftDown ltInt hi first lo d := by
              rw [← HO.out.2.1]
              exact (by have hh := sd_left_stop ltInt dj (hi := hi) (F := first) (root := r) (by omega) HL.out.1 (by rw [← HO.out.2.2, ← HO.out.2.2, show first + (2 * r + 1) = first + ch from by rw [HL.out.2]]; exact hm); exact hh.symm)
            have hA := HO.out.1
            rw [hs] at hA
            have HA := Aside0.mk hA
            clear hA hs
            go_wp2
            first | go_end0 | refine bodyPost_ret (results_none rfl _ _ _) rfl ?_
            exact ⟨rfl, (HA.out.drewN _).drewN _⟩
          · go_quiet (first | (go_at_call 30; refine Calls.quiet_of_same (less16 _ _ _)) | (go_at_call 30; exact (less16 _ _ _).mono (fun _ _ h => ⟨h.1, _, h.2⟩)))
            go_wp2
            go_region
            all_goals go_wp2
            have hgo := sd_left_go ltInt dj (hi := hi) (F := first) (root := r) (by omega) HL.out.1 (by rw [← HO.out.2.2, ← HO.out.2.2, show first + (2 * r + 1) = first + ch from by rw [HL.out.2]]; exact hm)
            rw [show 2 * r + 1 = ch by have := HL.out.2; omega] at hgo
            exact ⟨⟨ch, swp dj (first + r) (first + ch), rfl, by omega, by have h := fun q => HO.out.1.swap q (first + r) (first + ch) (by omega) (by omega); simp only [← HO.out.2.2] at h; exact h _, by rw [← HO.out.2.1]; exact hgo.symm⟩, by simp only [intOf]; omega⟩
        · have h2r : first + ch + 1 < d.size := by omega
          have HL := Aside0.mk (And.intro hl hch)
          clear e1 hch
          go_wp2
          go_quiet (first | (go_at_call 30; refine Calls.quiet_of_same (less16 _ _ _)) | (go_at_call 30; exact (less16 _ _ _).mono (fun _ _ h => ⟨h.1, _, h.2⟩)))
          go_wp2
          obtain ⟨c2, hc2⟩ : ∃ c2, ch + 1 = c2 := ⟨_, rfl⟩
          have e2 : (ch : Int) + 1 = (c2 : Int) := by omega
          try rw [e2]
          cases hm : ltInt (G (first + r)) (G (first + c2))
          · go_quiet (first | (go_at_call 30; refine Calls.quiet_of_same (less16 _ _ _)) | (go_at_call 30; exact (less16 _ _ _).mono (fun _ _ h => ⟨h.1, _, h.2⟩)))
            have hs : dj = Sort.siftDown ltInt hi first lo d := by
              rw [← HO.out.2.1]
              exact (by have hh := sd_right_stop ltInt dj (hi := hi) (F := first) (root := r) (by have := HL.out.2; omega) (by rw [← HO.out.2.2, ← HO.out.2.2, show first + (2 * r + 1) = first + ch from by rw [HL.out.2], show first + (2 * r + 2) = first + ch + 1 by have := HL.out.2; omega]; exact HL.out.1) (by rw [← HO.out.2.2, ← HO.out.2.2, show first + (2 * r + 2) = first + c2 by have := HL.out.2; omega]; exact hm); exact hh.symm)
            have hA := HO.out.1
            rw [hs] at hA
            have HA := Aside0.mk hA
            clear hA hs
            go_wp2
            first | go_end0 | refine bodyPost_ret (results_none rfl _ _ _) rfl ?_
            exact ⟨rfl, (HA.out.drewN _).drewN _⟩
          · go_quiet (first | (go_at_call 30; refine Calls.quiet_of_same (less16 _ _ _)) | (go_at_call 30; exact (less16 _ _ _).mono (fun _ _ h => ⟨h.1, _, h.2⟩)))
            go_wp2
            go_region
            all_goals go_wp2
            have hgo := sd_right_go ltInt dj (hi := hi) (F := first) (root := r) (by have := HL.out.2; omega) (by rw [← HO.out.2.2, ← HO.out.2.2, show first + (2 * r + 1) = first + ch from by rw [HL.out.2], show first + (2 * r + 2) = first + ch + 1 by have := HL.out.2; omega]; exact HL.out.1) (by rw [← HO.out.2.2, ← HO.out.2.2, show first + (2 * r + 2) = first + c2 by have := HL.out.2; omega]; exact hm)
            rw [show 2 * r + 2 = c2 by have := HL.out.2; omega] at hgo
            exact ⟨⟨c2, swp dj (first + r) (first + c2), rfl, by omega, by have h := fun q => HO.out.1.swap q (first + r) (first + c2) (by omega) (by omega); simp only [← HO.out.2.2] at h; exact h _, by rw [← HO.out.2.1]; exact hgo.symm⟩, by simp only [intOf]; omega⟩
      · have h2i : ¬ (ch : Int) + 1 < (hi : Int) := by omega
        have d2 : decide ((ch : Int) + 1 < (hi : Int)) = false := decide_eq_false h2i
        have hl2 : 2 * r + 2 < hi → ltInt dj[first + (2 * r + 1)]! dj[first + (2 * r + 2)]! = false := fun h => by omega
        have HL := Aside0.mk (And.intro hl2 hch)
        clear hl2 e1 hch
        go_wp2
        go_quiet (first | (go_at_call 30; refine Calls.quiet_of_same (less16 _ _ _)) | (go_at_call 30; exact (less16 _ _ _).mono (fun _ _ h => ⟨h.1, _, h.2⟩)))
        go_wp2
        cases hm : ltInt (G (first + r)) (G (first + ch))
        · go_quiet (first | (go_at_call 30; refine Calls.quiet_of_same (less16 _ _ _)) | (go_at_call 30; exact (less16 _ _ _).mono (fun _ _ h => ⟨h.1, _, h.2⟩)))
          have hs : dj = Sort.siftDown ltInt hi first lo d := by
            rw [← HO.out.2.1]
            exact (by have hh := sd_left_stop ltInt dj (hi := hi) (F := first) (root := r) (by omega) HL.out.1 (by rw [← HO.out.2.2, ← HO.out.2.2, show first + (2 * r + 1) = first + ch from by rw [HL.out.2]]; exact hm); exact hh.symm)
          have hA := HO.out.1
          rw [hs] at hA
          have HA := Aside0.mk hA
          clear hA hs
          go_wp2
          first | go_end0 | refine bodyPost_ret (results_none rfl _ _ _) rfl ?_
          exact ⟨rfl, (HA.out.drewN _).drewN _⟩
        · go_quiet (first | (go_at_call 30; refine Calls.quiet_of_same (less16 _ _ _)) | (go_at_call 30; exact (less16 _ _ _).mono (fun _ _ h => ⟨h.1, _, h.2⟩)))
          go_wp2
          go_region
          all_goals go_wp2
          have hgo := sd_left_go ltInt dj (hi := hi) (F := first) (root := r) (by omega) HL.out.1 (by rw [← HO.out.2.2, ← HO.out.2.2, show first + (2 * r + 1) = first + ch from by rw [HL.out.2]]; exact hm)
          rw [show 2 * r + 1 = ch by have := HL.out.2; omega] at hgo
          exact ⟨⟨ch, swp dj (first + r) (first + ch), rfl, by omega, by have h := fun q => HO.out.1.swap q (first + r) (first + ch) (by omega) (by omega); simp only [← HO.out.2.2] at h; exact h _, by rw [← HO.out.2.1]; exact hgo.symm⟩, by simp only [intOf]; omega⟩
set_option maxHeartbeats 3200000 in
set_option maxRecDepth 100000 in
theorem heap16 (blk off cap a b : Nat) (d : Array Int) (w : World) (hH : Holds e16 w blk off d) (hab : a ≤ b) (hb : b ≤ d.size) (hsz : d.size ≤ 1000000) :
    Calls Try.prog 25 #[.slice (some ⟨blk, off, none⟩) d.size cap, .int .i64 a, .int .i64 b] w fun e w' => e = .returned (.tuple #[]) ∧ At16 w blk off d (Sort.heapSort ltInt d a b) w' := by
  have HH := Aside0.mk (At16.self hH)
  have e0 : (b : Int) - (a : Int) = ((b - a : Nat) : Int) := by omega
  obtain ⟨hi, hhi⟩ : ∃ hi, b - a = hi := ⟨_, rfl⟩
  rw [hhi] at e0
  obtain ⟨K, hK⟩ : ∃ K, (b - a - 1) / 2 + 1 = K := ⟨_, rfl⟩
  have e1 : ((hi : Int) - 1).tdiv 2 = (K : Int) - 1 := by
    have h := half_start hab
    rw [hK, e0] at h
    exact h
  have hK2 : K ≤ hi + 1 := by omega
  have hKhi : 0 < hi → K ≤ hi := by omega
  have hahi : a + hi ≤ d.size := by omega
  have HK := Aside0.mk (And.intro hhi hK)
  clear hH hhi hK
  go_enter Try.func25, Try.ntmps25
  go_wp2
  go_loopw [9] (fun vi wr => ∃ (k : Nat) (dj : Array Int), vi = .int .i64 ((k : Int) - 1) ∧ k ≤ K ∧ At16 w blk off d dj wr ∧ heapBuild ltInt hi a k dj = heapBuild ltInt hi a K d) (fun vi _ => (intOf vi + 1).toNat)
  case atStart => exact ⟨K, d, by go_num, Nat.le_refl _, HH.out, rfl⟩
  case round =>
    obtain ⟨k, dj, rfl, hk, hA, hO⟩ := hrel
    by_cases h0 : k = 0
    · subst h0
      have HO := Aside0.mk (And.intro hA hO)
      clear hA hO
      go_wp2
      clear hKhi
      go_loopw [10] (fun vi wr => ∃ (k : Nat) (dj : Array Int), vi = .int .i64 ((k : Int) - 1) ∧ k ≤ hi ∧ At16 w blk off d dj wr ∧ heapPop ltInt a k dj = Sort.heapSort ltInt d a b) (fun vi _ => (intOf vi + 1).toNat)
      case atStart => exact ⟨hi, dj, by go_num, Nat.le_refl _, HO.out.1, by
        have h1 := HK.out.1
        have h2 := HK.out.2
        unfold Sort.heapSort
        rw [h1, show (hi - 1) / 2 + 1 = K by omega, ← HO.out.2]
        rfl⟩
      case round =>
        obtain ⟨k, dj, rfl, hk, hA, hO⟩ := hrel
        by_cases h0 : k = 0
        · subst h0
          have HP := Aside0.mk (And.intro hA hO)
          clear hA hO
          go_wp2
          first | go_end0 | refine bodyPost_ret (results_none rfl _ _ _) rfl ?_
          have hA := HP.out.1
          have hd : dj = Sort.heapSort ltInt d a b := HP.out.2
          rw [hd] at hA
          exact ⟨rfl, hA⟩
        · obtain ⟨k, rfl⟩ : ∃ k1, k = k1 + 1 := ⟨k - 1, by omega⟩
          obtain ⟨G, hG⟩ : ∃ G : Nat → Int, ∀ t, G t = dj[t]! := ⟨fun t => dj[t]!, fun _ => rfl⟩
          have hcw : ∀ t, t < d.size → wr.cell? ⟨blk, off + t, none⟩ = some (.int .u16 (G t)) := fun t ht => by rw [hG]; exact hA.cell t ht
          have hfw : ∀ t, t < d.size → wr.frozen? ⟨blk, off + t, none⟩ = false := fun t ht => hA.frozen t ht
          have hsw := fun q => hA.swap q a (a + k) (by omega) (by omega)
          simp only [← hG] at hsw
          have hsf := fun q => sift16 blk off d.size cap (swp dj a (a + k)) (hsw q).size 0 k a _ (hsw q).here (Nat.zero_le _) (by rw [(hsw q).size]; omega) (by rw [(hsw q).size]; exact hsz)
          have hkI : ((k + 1 : Nat) : Int) - 1 = (k : Int) := by omega
          try rw [hkI]
          have HP := Aside0.mk (And.intro hA (And.intro hO (And.intro hsw hsf)))
          clear hA hO hG hsw hsf
          by_cases hk0 : k = 0
          · subst hk0
            simp only [Nat.add_zero] at HP
            go_wp2
            go_region
            all_goals go_wp2_with (go_at_call 35; refine (HP.out.2.2.2 _).mono ?_; rintro e w1 ⟨rfl, hA1⟩; have H1 := Aside0.mk ((HP.out.2.2.1 _).then hA1); clear hA1)
            refine ⟨?_, ?_⟩
            · repeat (first | exact ⟨⟨0, _, rfl, by omega, H1.out, by rw [← HP.out.2.1]; rfl⟩, rfl⟩ | apply Exists.intro)
            simp [intOf]
          · have hkp : 0 < k := by omega
            go_wp2
            go_region
            all_goals go_wp2_with (go_at_call 35; refine (HP.out.2.2.2 _).mono ?_; rintro e w1 ⟨rfl, hA1⟩; have H1 := Aside0.mk ((HP.out.2.2.1 _).then hA1); clear hA1)
            refine ⟨?_, ?_⟩
            · repeat (first | exact ⟨⟨k, _, rfl, by omega, H1.out, by rw [← HP.out.2.1]; rfl⟩, rfl⟩ | apply Exists.intro)
            simp [intOf]
            try omega
    · obtain ⟨k, rfl⟩ : ∃ k1, k = k1 + 1 := ⟨k - 1, by omega⟩
      have hsf := sift16 blk off d.size cap dj hA.size k hi a wr hA.here (by omega) (by rw [hA.size]; exact hahi) (by rw [hA.size]; exact hsz)
      have HO := Aside0.mk (And.intro hA (And.intro hO hsf))
      clear hA hO hsf
      go_wp2_with (go_at_call 35; refine HO.out.2.2.mono ?_; rintro e w1 ⟨rfl, hA1⟩; have H1 := Aside0.mk hA1; clear hA1)
      exact ⟨⟨k, Sort.siftDown ltInt hi a k dj, rfl, by omega, HO.out.1.then H1.out, HO.out.2.1⟩, by simp only [intOf]; omega⟩
end Go.Proofs.Ytjiligngjlejmaa.Srt
