/- version.Split: a code's four versions. Each theorem says its own conditions. -/
import Derived.Test.YtnejnnfjbhpigaaDoorDl
namespace Go.Proofs.YtnejnnfjbhpigaaDoor.Vit
open Go.RowKit Go.Proofs.YtnejnnfjbhpigaaDoorW.PrintWords Go.Proofs.YtnejnnfjbhpigaaDoorW.PrintLast Go.Proofs.YtnejnnfjbhpigaaDoorW.PrintMore Go.Proofs.YtnejnnfjbhpigaaDoor.Mem Go.Proofs.YtnejnnfjbhpigaaDoor.Crc
attribute [local go_sem] max2_int min2_int max_two min_two max_three min_three max_four min_four   -- for this text's walks alone
set_option linter.unusedVariables false
set_option linter.unusedSimpArgs false

open Go.Proofs.YtnejnnfjbhpigaaDoor.Chk
theorem ver_of (i : Nat) : ver i = ((i % 4 + 4) - i / 4 % 4) % 4 := by unfold ver; omega
set_option maxHeartbeats 3200000 in
theorem PVersion_any (i : Nat) (hi : i ≤ 1000000) (w : World) : Calls Tryd.prog 96 #[.int .i64 ((i % 4 : Nat) : Int), .int .i64 ((i / 4 : Nat) : Int)] w fun e w' => e = .returned (.tuple #[.int .i64 (ver i : Nat), .int .i64 0]) ∧ w = w' := by
  obtain ⟨s, hs⟩ : ∃ s, i % 4 = s := ⟨_, rfl⟩
  obtain ⟨t, ht⟩ : ∃ t, i / 4 = t := ⟨_, rfl⟩
  have hs4 : s < 4 := by omega
  obtain ⟨r, hr⟩ : ∃ r, t % 4 = r := ⟨_, rfl⟩
  have hv : ver i = (s + 4 - r) % 4 := by rw [ver_of, hs, ht, hr]
  rw [hs, ht, hv]
  obtain ⟨y, hy⟩ : ∃ y, s + 4 - r = y := ⟨_, rfl⟩
  obtain ⟨z, hz⟩ : ∃ z, y % 4 = z := ⟨_, rfl⟩
  rw [hy, hz]
  have h1 : (t : Int).tmod 4 = (r : Int) := by rw [Int.tmod_eq_emod_of_nonneg (by omega)]; omega
  have h5 : (y : Int).tmod 4 = (z : Int) := by rw [Int.tmod_eq_emod_of_nonneg (by omega)]; omega
  have hsy : (s : Int) + 4 - (r : Int) = (y : Int) := by omega
  have b1 : -9223372036854775808 ≤ (r : Int) ∧ (r : Int) ≤ 9223372036854775807 := by omega
  have b2 : -9223372036854775808 ≤ (s : Int) + 4 ∧ (s : Int) + 4 ≤ 9223372036854775807 := by omega
  have b3 : -9223372036854775808 ≤ (y : Int) ∧ (y : Int) ≤ 9223372036854775807 := by omega
  have b4 : -9223372036854775808 ≤ (z : Int) ∧ (z : Int) ≤ 9223372036854775807 := by omega
  have h2 : wrap64 (r : Int) = (r : Int) := wrap64_in _ b1.1 b1.2
  have h3 : wrap64 ((s : Int) + 4) = (s : Int) + 4 := wrap64_in _ b2.1 b2.2
  have h4 : wrap64 ((s : Int) + 4 - (r : Int)) = (y : Int) := by rw [hsy]; exact wrap64_in _ b3.1 b3.2
  have h6 : wrap64 (z : Int) = (z : Int) := wrap64_in _ b4.1 b4.2
  clear b1 b2 b3 b4 hsy
  clear hs ht hv hi hr hy hz
  go_enter Tryd.func96, Tryd.ntmps96
  go_wp2_with (go_at_call 78; refine (one_any s t hs4 _).mono ?_; rintro e w1 ⟨rfl, rfl⟩)
  go_ret2
  exact ⟨rfl, rfl⟩
/-- A version's bits among the first of a code. -/
def splL (c : List Nat) (v : Nat) : Nat → List Nat
  | 0 => []
  | i + 1 => if ver i = v then splL c v i ++ [c.getD i 0] else splL c v i
theorem splL_len (c : List Nat) (v : Nat) : ∀ i, (splL c v i).length ≤ i
  | 0 => Nat.le_refl _
  | i + 1 => by
    have := splL_len c v i
    unfold splL
    split
    · rw [List.length_append]; simp; omega
    · omega
theorem splL_whole (c : List Nat) {v : Nat} (hv : v < 4) : ∀ L, splL c v (4 * L) = pickl c v L
  | 0 => rfl
  | L + 1 => by
    have ih := splL_whole c hv L
    have hz : ∀ i, i < 4 → (ver (4 * L + i) = v ↔ i = strm v L) := fun i hi => by unfold ver strm; omega
    have z0 := hz 0 (by omega)
    have z1 := hz 1 (by omega)
    have z2 := hz 2 (by omega)
    have z3 := hz 3 (by omega)
    rw [Nat.add_zero] at z0
    have hp : pickl c v (L + 1) = pickl c v L ++ [c.getD (place v L) 0] := by unfold pickl; rw [List.range_succ, List.map_append]; rfl
    have hpl : place v L = 4 * L + strm v L := rfl
    rw [show 4 * (L + 1) = 4 * L + 1 + 1 + 1 + 1 by omega, hp, hpl]
    simp only [splL, ih, z0, z1, z2, z3]
    have hs := strm_lt v L
    have h4 : strm v L = 0 ∨ strm v L = 1 ∨ strm v L = 2 ∨ strm v L = 3 := by omega
    rcases h4 with h | h | h | h <;> rw [h] <;> simp
abbrev fourS (s : Nat → Value) : Array Value := #[s 0, s 1, s 2, s 3]
theorem fourS_get (s : Nat → Value) {v : Nat} (hv : v < 4) : (fourS s)[v]? = some (s v) := by
  match v, hv with
  | 0, _ => rfl
  | 1, _ => rfl
  | 2, _ => rfl
  | 3, _ => rfl
theorem fourS_set (s : Nat → Value) {v : Nat} (hv : v < 4) (x : Value) : (fourS s).setIfInBounds v x = fourS (fun u => if u = v then x else s u) := by
  match v, hv with
  | 0, _ => rfl
  | 1, _ => rfl
  | 2, _ => rfl
  | 3, _ => rfl
theorem row_ty : ∀ q, q ∈ 5 :: (Kd.int .u8).E → q ≠ 50 := by
  intro q hq
  rcases List.mem_cons.1 hq with rfl | h
  · decide
  · exact absurd h List.not_mem_nil
/-- Four rows in an array. -/
structure Four (base g : Nat) (s : Nat → Value) (ls : Nat → List Nat) (W : World) : Prop where
  box : W.heap[g]? = some (.cells (fourS s) 50 (0, 0))
  row : ∀ v, v < 4 → (Kd.int .u8).R 5 W base (fun _ => True) (s v) (ints (ls v))
  apart : ∀ u v, u < 4 → v < 4 → u ≠ v → ∀ k, (s u).ownBlock = some k → (s v).ownBlock ≠ some k
theorem Four.below {base g : Nat} {s : Nat → Value} {ls : Nat → List Nat} {W W' : World} (h : Four base g s ls W) (hB : Below W.heap.size W W') : Four base g s ls W' := ⟨below_cell_blk hB h.box, fun v hv => Kd.R_below (h.row v hv) hB, h.apart⟩
theorem Four.nil {base : Nat} {w : World} : Four base w.heap.size (fun _ => .slice none 0 0) (fun _ => []) (w.alloc (.cells (fourS (fun _ => .slice none 0 0)) 50)) := ⟨heap_alloc_new w _, fun _ _ => Kd.R_nil _ _ _ _ _, fun _ _ _ _ _ k hk => by simp [Value.ownBlock] at hk⟩
theorem Four.put {base g : Nat} {s : Nat → Value} {ls : Nat → List Nat} {W W1 : World} (h : Four base g s ls W) {v : Nat} (hv : v < 4) {v1 : Value} {l : List Nat} (hR : (Kd.int .u8).R 5 W1 base (fun _ => True) v1 (ints l)) (hg : W.grownBy W1 (s v).ownBlock)
    (hat : v1.ownBlock = (s v).ownBlock ∨ ∃ b, v1.ownBlock = some b ∧ W.heap.size ≤ b) : Four base g (fun u => if u = v then v1 else s u) (fun u => if u = v then l else ls u) (W1.setCell ⟨g, v, none⟩ v1) := by
  have hgo : some g ≠ (s v).ownBlock := fun e => ((Kd.R_types (h.row v hv) h.box row_ty).1 g e.symm).2 rfl
  have hb1 := blk_grown h.box hg hgo
  have hnew : ∀ k, v1.ownBlock = some k → ∀ u, u < 4 → u ≠ v → (s u).ownBlock ≠ some k := fun k hk u hu hne he => by
    rcases hat with e | ⟨b, hb, hle⟩
    · exact h.apart v u hv hu (fun e => hne e.symm) k (e ▸ hk) he
    · rw [hb] at hk
      cases hk
      have := ((Kd.R_bound (h.row u hu)).1 _ he).2.2.1
      omega
  refine ⟨?_, fun u hu => ?_, fun a b ha hb hne k hk he => ?_⟩
  · have h2 := blk_set hb1 v v1
    rw [fourS_set s hv] at h2
    exact h2
  · by_cases e : u = v
    · subst e
      rw [if_pos rfl, if_pos rfl]
      exact Kd.R_set hR hb1 row_ty _ _
    · rw [if_neg e, if_neg e]
      exact Kd.R_set (Kd.R_grown2 (h.row u hu) rfl hg (fun k hk hu2 => h.apart v u hv hu (fun e2 => e e2.symm) k hk hu2.symm)) hb1 row_ty _ _
  · by_cases e1 : a = v
    · subst e1
      rw [if_pos rfl] at hk
      rw [if_neg (fun e => hne e.symm)] at he
      exact hnew k hk b hb (fun e => hne e.symm) he
    · rw [if_neg e1] at hk
      by_cases e2 : b = v
      · subst e2
        rw [if_pos rfl] at he
        exact hnew k he a ha e1 hk
      · rw [if_neg e2] at he
        exact h.apart a b ha hb hne k hk he
end Go.Proofs.YtnejnnfjbhpigaaDoor.Vit
