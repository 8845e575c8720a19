/- slices.Chunk as a range over a function, at bytes: each theorem says its own conditions. -/
import Derived.RangeFuncNested
import Derived.RangeFuncBound
import Derived.RangeFuncCalls
import Derived.RangeFuncLeaves
import Derived.RangeFuncBox
import Derived.Shelf.Abstract
import Derived.Shelf.RegionOpen
import Derived.WalkKit
import Derived.OwnWalkIn
import Derived.TacticsInMore
import Derived.LoopNIn
import Derived.LoopIn
import Derived.Maps.AppendAt
import Derived.BigRegionIn
import Derived.Sort.QuietIn
import Derived.Test.YtnejnnfjbhpigaaDoorCe
import Derived.Test.YtnejnnfjbhpigaaDoorWh
namespace Go.Proofs.YtnejnnfjbhpigaaDoor.Chk
open Go.RowKit Go.Shelf
attribute [local go_sem] Oper.semAt_some
attribute [local go_sem] Go.Proofs.YtnejnnfjbhpigaaDoorW.PrintMore.max2_int Go.Proofs.YtnejnnfjbhpigaaDoorW.PrintMore.min2_int Go.Proofs.YtnejnnfjbhpigaaDoorW.PrintMore.min_two
set_option linter.unusedVariables false
set_option linter.unusedSimpArgs false

/-- A chunk's number. -/
abbrev Ck (len : Nat) := { j : Nat // 8 * j < len }
/-- How long a chunk is. -/
def cl (len j : Nat) : Nat := min 8 (len - 8 * j)
def ckn {len : Nat} (ys : List (Ck len)) : List Nat := ys.map fun y => y.1
theorem ckn_len {len : Nat} (ys : List (Ck len)) : (ckn ys).length = ys.length := by unfold ckn; rw [List.length_map]
theorem ckn_snoc {len : Nat} (ys : List (Ck len)) (x : Ck len) : ckn (ys ++ [x]) = ckn ys ++ [x.1] := by unfold ckn; rw [List.map_append]; rfl
set_option maxRecDepth 100000 in
set_option maxHeartbeats 2000000 in
/-- The closure of slices.Chunk(s, 8): each chunk of the slice in turn. -/
theorem chunk1_in (n : Nat) (hn : 1 ≤ n) (l Bs Bn b off len cap : Nat) (hlen : len ≤ 1000000) (hcap : len ≤ cap) (J Jx : List (Ck len) → World → Prop)
    (hY : ∀ pre (x : Ck len) W, J pre W → pre.length < (len + 7) / 8 → YieldAt Fence.wide (n - 1) Tryd.prog l #[.slice (some ⟨b, off + 8 * x.1, none⟩) (cl len x.1) (cl len x.1)] W fun e W' =>
      (e = .returned (.bool true) ∧ J (pre ++ [x]) W' ∧ (W'.heap[Bs]? = W.heap[Bs]? ∧ W'.heap[Bn]? = W.heap[Bn]?)) ∨ (e = .returned (.bool false) ∧ Jx (pre ++ [x]) W'))
    (W : World) (hBs : W.heap[Bs]? = some (.cells #[.slice (some ⟨b, off, none⟩) len cap] 22 (0, 0))) (hBn : W.heap[Bn]? = some (.cells #[.int .i64 8] 3 (0, 0))) (h0 : J [] W) (hdr : ∀ pre W m, J pre W → J pre (W.drewN m)) :
    CallsIn Fence.wide n Tryd.prog 98 #[.func (.yield l) #[] #[], .pointer (some ⟨Bs, 0, none⟩), .pointer (some ⟨Bn, 0, none⟩)] W fun e W' => (∃ v, e = .returned v) ∧
      ((∃ ys : List (Ck len), ckn ys = List.range ((len + 7) / 8) ∧ J ys W') ∨ (∃ pre, True ∧ Jx pre W')) := by
  refine callsIn_of_wp Tryd.func98 rfl trivial ?_ rfl
  simp only [Tryd.ntmps98, List.size_toArray, List.length_cons, List.length_nil, Nat.reduceAdd, Nat.reduceSub, Array.replicate_succ, Array.replicate_zero, List.push_toArray, List.append_toArray, List.nil_append, List.cons_append]
  gi_wp2
  gi_loopw [4] (fun i wr => ∃ (k : Nat) (pre : List (Ck len)), k ≤ (len + 7) / 8 ∧ i = .int .i64 (8 * k : Nat) ∧ ckn pre = List.range k ∧ J pre wr ∧ wr.heap[Bs]? = some (.cells #[.slice (some ⟨b, off, none⟩) len cap] 22 (0, 0)) ∧ wr.heap[Bn]? = some (.cells #[.int .i64 8] 3 (0, 0)))
    (fun i _ => len + 8 - (intOf i).toNat)
  case atStart => exact ⟨0, [], Nat.zero_le _, rfl, rfl, h0, hBs, hBn⟩
  case round =>
    obtain ⟨k, pre, hk, rfl, hpre, hJ, hs, hb⟩ := hrel
    have hc1 : wr.cell? ⟨Bs, 0, none⟩ = some (.slice (some ⟨b, off, none⟩) len cap) := Go.Proofs.YtnejnnfjbhpigaaDoorW.PrintWords.blk_cell hs 0
    have hc2 : wr.cell? ⟨Bn, 0, none⟩ = some (.int .i64 8) := Go.Proofs.YtnejnnfjbhpigaaDoorW.PrintWords.blk_cell hb 0
    obtain ⟨q, hq⟩ : ∃ q, 8 * k = q := ⟨_, rfl⟩
    rw [hq]
    by_cases hlt : q < len
    · have hlt2 : (q : Int) < (len : Int) := by omega
      obtain ⟨m, hm⟩ : ∃ m, cl len k = m := ⟨_, rfl⟩
      have hmin : (if ((len - q : Nat) : Int) < 8 then ((len - q : Nat) : Int) else 8) = (m : Int) := by
        rw [← hm]
        unfold cl
        split <;> omega
      have hmin2 : (if (len - q) < 8 then ((len - q : Nat) : Int) else 8) = (m : Int) := by
        rw [← hm]
        unfold cl
        split <;> omega
      have hcq : ¬ cap = q := by omega
      have hqc : (q : Int) ≤ (len : Int) := by omega
      gi_wp2
      gi_quiet (fail)
      have hkn : k < (len + 7) / 8 := by omega
      have hpl : pre.length = k := by have := congrArg List.length hpre; rw [ckn_len] at this; simpa using this
      obtain ⟨fn, tmps, assign, body, hy, hR⟩ := hY pre ⟨k, by omega⟩ (wr.drewN nq) (hdr _ _ _ hJ) (by omega)
      dsimp only at hy
      rw [hm, hq] at hy
      have hmle : m ≤ 8 := by rw [← hm]; unfold cl; omega
      have hq8 : (q : Int) + 8 ≤ 2000000 := by omega
      clear hm
      gi_wp2
      refine hR.mono ?_
      rintro e W3 (⟨rfl, hJ3, hk3, hk4⟩ | ⟨rfl, hJx3⟩)
      · have hs3 : W3.heap[Bs]? = some (.cells #[.slice (some ⟨b, off, none⟩) len cap] 22 (0, 0)) := hk3.trans hs
        have hb3 : W3.heap[Bn]? = some (.cells #[.int .i64 8] 3 (0, 0)) := hk4.trans hb
        have hc3 : W3.cell? ⟨Bn, 0, none⟩ = some (.int .i64 8) := Go.Proofs.YtnejnnfjbhpigaaDoorW.PrintWords.blk_cell hb3 0
        gi_wp2
        refine ⟨⟨k + 1, pre ++ [⟨k, by omega⟩], by omega, ?_, ?_, hJ3, hs3, hb3⟩, by simp only [intOf]; omega⟩
        · rw [show 8 * (k + 1) = q + 8 by omega]
          rfl
        · rw [ckn_snoc, hpre, List.range_succ]
      · gi_wp2
        refine bodyPost_ret (results_none rfl _ _ _) rfl ?_
        exact ⟨⟨_, rfl⟩, .inr ⟨_, trivial, hJx3⟩⟩
    · have hge : ¬ (q : Int) < (len : Int) := by omega
      have hke : k = (len + 7) / 8 := by omega
      gi_wp2
      go_end0
      exact ⟨⟨_, rfl⟩, .inl ⟨pre, by rw [hpre, hke], hJ⟩⟩
set_option maxHeartbeats 1000000 in
/-- slices.Chunk(s, 8): both are boxed. -/
theorem chunk_in (n : Nat) (a : Option Addr) (len cap : Nat) (w : World) :
    CallsIn Fence.wide n Tryd.prog 81 #[.slice a len cap, .int .i64 8] w fun e w' => e = .returned (.func (.func 98) #[] #[.pointer (some ⟨w.heap.size, 0, none⟩), .pointer (some ⟨w.heap.size + 1, 0, none⟩)]) ∧ w' = (w.alloc (.cells #[.slice a len cap] 22)).alloc (.cells #[.int .i64 8] 3) := by
  refine callsIn_of_wp Tryd.func81 rfl trivial ?_ rfl
  simp only [Tryd.ntmps81, List.size_toArray, List.length_cons, List.length_nil, Nat.reduceAdd, Nat.reduceSub, Array.replicate_succ, Array.replicate_zero, List.push_toArray, List.append_toArray, List.nil_append, List.cons_append]
  gi_wp2
  go_ret
  exact ⟨rfl, rfl⟩
/-- What a round keeps: both boxes. -/
def KpB (Bs Bn : Nat) (W W' : World) : Prop := W'.heap[Bs]? = W.heap[Bs]? ∧ W'.heap[Bn]? = W.heap[Bn]?
theorem kp_t {Bs Bn : Nat} : ∀ {A B C : World}, KpB Bs Bn A B → KpB Bs Bn B C → KpB Bs Bn A C := fun h k => ⟨k.1.trans h.1, k.2.trans h.2⟩
theorem kp_b {Bs Bn : Nat} {w : World} (h1 : Bs < w.heap.size) (h2 : Bn < w.heap.size) : ∀ (W : World) (l : Nat) (o o' : Obj), w.heap.size ≤ l → W.heap[l]? = some o → o.isCells = false → o.isWalk = false → KpB Bs Bn W (W.putObj l o') := fun W l o o' hl ho _ _ => by
  have hk : ∀ k, k < w.heap.size → (W.putObj l o').heap[k]? = W.heap[k]? := fun k hk => by
    simp only [World.putObj]
    rw [Array.getElem?_setIfInBounds_ne (by omega)]
  exact ⟨hk _ h1, hk _ h2⟩
theorem chunk_stops (n : Nat) (hn : 1 ≤ n) (Bs Bn b off len cap : Nat) (hlen : len ≤ 1000000) (hcap : len ≤ cap) (w : World) (hBs : w.heap[Bs]? = some (.cells #[.slice (some ⟨b, off, none⟩) len cap] 22 (0, 0))) (hBn : w.heap[Bn]? = some (.cells #[.int .i64 8] 3 (0, 0))) :
    SeqStopsK Fence.wide n Tryd.prog 98 #[.pointer (some ⟨Bs, 0, none⟩), .pointer (some ⟨Bn, 0, none⟩)] (fun x : Ck len => #[Value.slice (some ⟨b, off + 8 * x.1, none⟩) (cl len x.1) (cl len x.1)]) (KpB Bs Bn)
      (fun ys => ckn ys = List.range ((len + 7) / 8)) (fun _ => True) ((len + 7) / 8) w := fun l J Jx W hW hJ hJx hY h0 => by
  have h1 : W.heap[Bs]? = some (.cells #[.slice (some ⟨b, off, none⟩) len cap] 22 (0, 0)) := (hW.block _ (Array.getElem?_eq_some_iff.1 hBs).1).trans hBs
  have h2 : W.heap[Bn]? = some (.cells #[.int .i64 8] 3 (0, 0)) := (hW.block _ (Array.getElem?_eq_some_iff.1 hBn).1).trans hBn
  refine (chunk1_in n hn l Bs Bn b off len cap hlen hcap J Jx hY W h1 h2 h0 (fun pre W m hp => hJ pre W _ none hp (Go.Proofs.YtnejnnfjbhpigaaDoorW.PrintWords.grown_of_below (Go.Proofs.YtnejnnfjbhpigaaDoorW.PrintWords.pw_below_drewN (Below.refl _ _) m) none) (fun r e => by cases e))).mono ?_
  rintro e W' ⟨he, hor⟩
  exact ⟨he, hor⟩
/-- A slice of none: no round. -/
theorem chunk_none (n : Nat) (hn : 1 ≤ n) (Bs Bn : Nat) (a : Option Addr) (cap : Nat) (w : World) (hBs : w.heap[Bs]? = some (.cells #[.slice a 0 cap] 22 (0, 0))) :
    SeqStopsK Fence.wide n Tryd.prog 98 #[.pointer (some ⟨Bs, 0, none⟩), .pointer (some ⟨Bn, 0, none⟩)] (fun x : Ck 0 => #[Value.slice a (cl 0 x.1) (cl 0 x.1)]) (KpB Bs Bn)
      (fun ys => ckn ys = List.range ((0 + 7) / 8)) (fun _ => True) ((0 + 7) / 8) w := fun l J Jx W hW hJ hJx hY h0 => by
  have h1 : W.heap[Bs]? = some (.cells #[.slice a 0 cap] 22 (0, 0)) := (hW.block _ (Array.getElem?_eq_some_iff.1 hBs).1).trans hBs
  show CallsIn Fence.wide n Tryd.prog 98 #[.func (.yield l) #[] #[], .pointer (some ⟨Bs, 0, none⟩), .pointer (some ⟨Bn, 0, none⟩)] W _
  refine callsIn_of_wp Tryd.func98 rfl trivial ?_ rfl
  simp only [Tryd.ntmps98, List.size_toArray, List.length_cons, List.length_nil, Nat.reduceAdd, Nat.reduceSub, Array.replicate_succ, Array.replicate_zero, List.push_toArray, List.append_toArray, List.nil_append, List.cons_append]
  gi_wp2
  gi_loopw [4] (fun i wr => i = .int .i64 0 ∧ J [] wr ∧ wr.heap[Bs]? = some (.cells #[.slice a 0 cap] 22 (0, 0))) (fun _ _ => 0)
  case atStart => exact ⟨rfl, h0, h1⟩
  case round =>
    obtain ⟨rfl, hJs, hs⟩ := hrel
    have hc1 : wr.cell? ⟨Bs, 0, none⟩ = some (.slice a 0 cap) := Go.Proofs.YtnejnnfjbhpigaaDoorW.PrintWords.blk_cell hs 0
    gi_wp2
    go_end0
    exact ⟨⟨_, rfl⟩, .inl ⟨[], rfl, hJs⟩⟩
end Go.Proofs.YtnejnnfjbhpigaaDoor.Chk

namespace Go.Proofs.YtnejnnfjbhpigaaDoor.Chk
open Go.RowKit Go.Shelf Go.Proofs.YtnejnnfjbhpigaaDoor.Vit Go.Proofs.YtnejnnfjbhpigaaDoorW.PrintWords
attribute [local go_sem] Oper.semAt_some
attribute [local go_sem] Go.Proofs.YtnejnnfjbhpigaaDoorW.PrintMore.max2_int Go.Proofs.YtnejnnfjbhpigaaDoorW.PrintMore.min2_int Go.Proofs.YtnejnnfjbhpigaaDoorW.PrintMore.min_two
set_option linter.unusedVariables false
set_option linter.unusedSimpArgs false

/-- The first bits of a byte, as a number. -/
def pby (l : List Nat) (j : Nat) : Nat → Nat
  | 0 => 0
  | k + 1 => pby l j k + l.getD (8 * j + k) 0 * 2 ^ (7 - k)
/-- Bits as bytes, with noughts behind. -/
def bytesB (l : List Nat) : List Nat := (List.range ((l.length + 7) / 8)).map fun j => pby l j 8
theorem bytesB_len (l : List Nat) : (bytesB l).length = (l.length + 7) / 8 := by simp [bytesB]
theorem getD_bit {l : List Nat} (hb : Bits l) (j : Nat) : l.getD j 0 ≤ 1 := by
  rw [List.getD_eq_getElem?_getD]
  cases h : l[j]? with
  | none => simp
  | some x => exact hb x (List.mem_of_getElem? h)
theorem pby_form {l : List Nat} (hb : Bits l) (j : Nat) : ∀ k, k ≤ 8 → pby l j k % 2 ^ (8 - k) = 0 ∧ pby l j k < 256
  | 0, _ => by simp [pby]
  | k + 1, hk => by
    obtain ⟨h1, h2⟩ := pby_form hb j k (by omega)
    have hg := getD_bit hb (8 * j + k)
    have e : 8 - k = (7 - k) + 1 := by omega
    rw [e, Nat.pow_succ] at h1
    show (pby l j k + l.getD (8 * j + k) 0 * 2 ^ (7 - k)) % 2 ^ (8 - (k + 1)) = 0 ∧ _
    rw [show 8 - (k + 1) = 7 - k by omega]
    obtain ⟨c, hc⟩ : ∃ c, pby l j k = 2 ^ (7 - k) * 2 * c := ⟨pby l j k / (2 ^ (7 - k) * 2), by have := Nat.div_add_mod (pby l j k) (2 ^ (7 - k) * 2); omega⟩
    obtain ⟨p, hp⟩ : ∃ p, 2 ^ (7 - k) = p := ⟨_, rfl⟩
    have h256 : 256 = p * 2 * 2 ^ k := by
      rw [← hp, Nat.mul_assoc, Nat.mul_comm 2, ← Nat.pow_succ, ← Nat.pow_add, show 7 - k + (k + 1) = 8 by omega]
    rw [hp] at hc
    have hcl : c < 2 ^ k := by
      have : p * 2 * c < p * 2 * 2 ^ k := by rw [← h256, ← hc]; exact h2
      exact Nat.lt_of_mul_lt_mul_left this
    obtain ⟨g, hgg⟩ : ∃ g, l.getD (8 * j + k) 0 = g := ⟨_, rfl⟩
    rw [hgg] at hg
    show (pby l j k + l.getD (8 * j + k) 0 * 2 ^ (7 - k)) % 2 ^ (7 - k) = 0 ∧ pby l j k + l.getD (8 * j + k) 0 * 2 ^ (7 - k) < 256
    rw [hc, hp, hgg]
    constructor
    · rw [show p * 2 * c + g * p = p * (2 * c + g) by rw [Nat.mul_add, Nat.mul_assoc, Nat.mul_comm g]]
      exact Nat.mul_mod_right _ _
    · rw [show p * 2 * c + g * p = p * (2 * c + g) by rw [Nat.mul_add, Nat.mul_assoc, Nat.mul_comm g], h256, Nat.mul_assoc]
      have hpp : 0 < p := by rw [← hp]; exact Nat.two_pow_pos _
      exact Nat.mul_lt_mul_of_pos_left (by omega) hpp
theorem pby_lt {l : List Nat} (hb : Bits l) (j : Nat) : pby l j 8 < 256 := (pby_form hb j 8 (Nat.le_refl _)).2
theorem bytesB_lt {l : List Nat} (hb : Bits l) : ∀ x ∈ bytesB l, x < 256 := fun x hx => by
  obtain ⟨j, _, rfl⟩ := List.mem_map.1 hx
  exact pby_lt hb j
theorem pby_or {l : List Nat} (hb : Bits l) (j k : Nat) (hk : k < 8) {g : Nat} (hg : l.getD (8 * j + k) 0 = g) : ∃ s : Nat, IntKind.u8.wrap ((g : Int) * 2 ^ (7 - k)) = (s : Int) ∧ Go.bits .or .u8 ((pby l j k : Nat) : Int) (s : Int) = ((pby l j (k + 1) : Nat) : Int) := by
  obtain ⟨h1, h2⟩ := pby_form hb j k (by omega)
  have hg1 := getD_bit hb (8 * j + k)
  rw [hg] at hg1
  have hp : 2 ^ (7 - k) ≤ 2 ^ 7 := Nat.pow_le_pow_right (by omega) (by omega)
  have hs : g * 2 ^ (7 - k) ≤ 1 * 2 ^ (7 - k) := Nat.mul_le_mul_right _ hg1
  have hlt : g * 2 ^ (7 - k) < 2 ^ (8 - k) := by
    rw [show 8 - k = (7 - k) + 1 by omega, Nat.pow_succ]
    have := Nat.two_pow_pos (7 - k)
    omega
  refine ⟨g * 2 ^ (7 - k), ?_, ?_⟩
  · rw [show (g : Int) * 2 ^ (7 - k) = ((g * 2 ^ (7 - k) : Nat) : Int) by simp]
    exact wraps_u8 _ (by omega) (by omega)
  · have := bits_join .u8 8 (by decide) wraps_u8 (8 - k) ((pby l j k : Nat) : Int) ((g * 2 ^ (7 - k) : Nat) : Int) (by omega) (by exact_mod_cast h1) (by omega) (by omega) (by exact_mod_cast hlt) (by omega)
    rw [this, ← hg]
    rfl
theorem blk_own {β : Type} (B g : Nat) (cs : Array Value) (ty : TypeId) (fr : Nat × Nat) : OwnFrom B (fun (_ : β) W => W.heap[g]? = some (.cells cs ty fr)) := fun s A W row hs hg hr =>
  (hg.block g (Array.getElem?_eq_some_iff.1 hs).1 (fun e => by
    obtain ⟨_, o, ho, hc⟩ := hr g e.symm
    rw [hs] at ho
    cases ho
    cases hc)).trans hs
theorem pby_more (l : List Nat) (j : Nat) : ∀ d k, l.length ≤ 8 * j + k → pby l j (k + d) = pby l j k
  | 0, k, _ => rfl
  | d + 1, k, h => by
    show pby l j (k + d) + l.getD (8 * j + (k + d)) 0 * 2 ^ (7 - (k + d)) = _
    rw [pby_more l j d k h, List.getD_eq_getElem?_getD, List.getElem?_eq_none (by omega)]
    simp
theorem pby_all {l : List Nat} {j k : Nat} (h : k = 8 ∨ l.length ≤ 8 * j + k) (hk : k ≤ 8) : pby l j k = pby l j 8 := by
  rcases h with h | h
  · rw [h]
  · have := pby_more l j (8 - k) k h
    rw [show k + (8 - k) = 8 by omega] at this
    exact this.symm
theorem add_plain' (g o j k : Nat) : (⟨g, o + j + k, none⟩ : Addr) = (⟨g, o, none⟩ : Addr).add (j + k) := by unfold Addr.add; split <;> simp_all [Nat.add_assoc]
set_option maxRecDepth 100000 in
set_option maxHeartbeats 3200000 in
theorem Bytes_some (l : List Nat) (hb : Bits l) (b off c len : Nat) (hll : l.length = len) (w : World) (hC : (Kd.int .u8).C w (some ⟨b, off, none⟩) len (ints l)) (hc : len ≤ c) (hl : len ≤ 1000000) :
    Calls Tryd.prog 54 #[.slice (some ⟨b, off, none⟩) len c] w fun e w' => ∃ v, e = .returned (.tuple #[v, .int .i64 0]) ∧ w'.ownsRow w.heap.size 5 1 v (bytesB l).length ((ints (bytesB l)).map (Value.int .u8)) ∧ Below w.heap.size w w' := by
  have hr := BRight_any (ints l) (some ⟨b, off, none⟩) len c w hC hc (by omega)
  rw [bits_right hb] at hr
  have HR := Aside0.mk hr
  have HC := Aside0.mk (And.intro hC (And.intro hb hll))
  clear hr hC hb hll
  obtain ⟨i0, hi, hz0, hz1, hz2⟩ := info_parts info5
  refine (callsIn_wide (n := 4)).1 ?_
  refine callsIn_of_wp_marks Tryd.func54 rfl trivial ?_ rfl
  simp only [Tryd.ntmps54, List.size_toArray, List.length_cons, List.length_nil, Nat.reduceAdd, Nat.reduceSub, Array.replicate_succ, Array.replicate_zero, List.push_toArray, List.append_toArray, List.nil_append, List.cons_append]
  gi_wp2_with (refine ⟨trivial, ?_⟩; gi_at_call 48; refine (callsIn_wide.2 HR.out).mono ?_; rintro e w1 ⟨rfl, q1, rfl⟩)
  refine ⟨trivial, ?_⟩
  gi_at_call 81
  refine (chunk_in 3 _ _ _ _).mono ?_
  rintro e w2 ⟨rfl, rfl⟩
  obtain ⟨wq, hwq⟩ : ∃ wq, w.drewN q1 = wq := ⟨_, rfl⟩
  have hsz : w.heap.size = wq.heap.size := by rw [← hwq]; rfl
  have hBq : Below w.heap.size w wq := by rw [← hwq]; exact pw_below_drewN (Below.refl _ _) q1
  rw [hwq]
  have bO := Boxed.new wq 22 (.slice none 0 0)
  have hwS : ((wq.alloc (.cells #[.slice none 0 0] 22)).alloc (.cells #[.slice (some ⟨b, off, none⟩) len c] 22)).heap[wq.heap.size + 1]? = some (.cells #[.slice (some ⟨b, off, none⟩) len c] 22 (0, 0)) := by
    have := heap_alloc_new (wq.alloc (.cells #[.slice none 0 0] 22)) (.cells #[.slice (some ⟨b, off, none⟩) len c] 22)
    rw [World.size_alloc] at this
    exact this
  have hwN : (((wq.alloc (.cells #[.slice none 0 0] 22)).alloc (.cells #[.slice (some ⟨b, off, none⟩) len c] 22)).alloc (.cells #[.int .i64 8] 3)).heap[wq.heap.size + 1 + 1]? = some (.cells #[.int .i64 8] 3 (0, 0)) := by
    have := heap_alloc_new ((wq.alloc (.cells #[.slice none 0 0] 22)).alloc (.cells #[.slice (some ⟨b, off, none⟩) len c] 22)) (.cells #[.int .i64 8] 3)
    rw [World.size_alloc, World.size_alloc] at this
    exact this
  have hB0 : Below w.heap.size w (((wq.alloc (.cells #[.slice none 0 0] 22)).alloc (.cells #[.slice (some ⟨b, off, none⟩) len c] 22)).alloc (.cells #[.int .i64 8] 3)) :=
    ((hBq.alloc (by omega) _).alloc (by simp; omega) _).alloc (by simp; omega) _
  have HSZ := Aside0.mk hsz
  have HX0 := Aside0.mk (And.intro bO (And.intro hwS (And.intro hwN hB0)))
  clear hsz hwq bO hwS hwN hB0 hBq
  gi_wp2
  have hsz := HSZ.out
  obtain ⟨bO, hwS, hwN, hB0⟩ := HX0.out
  obtain ⟨W0, hW0⟩ : ∃ W0, ((wq.alloc (.cells #[.slice none 0 0] 22)).alloc (.cells #[.slice (some ⟨b, off, none⟩) len c] 22)).alloc (.cells #[.int .i64 8] 3) = W0 := ⟨_, rfl⟩
  have hbx0 : Boxed W0 w.heap.size 22 (.slice none 0 0) := by
    rw [← hW0, hsz]
    exact (bO.alloc _).alloc _
  have hwS0 : W0.heap[wq.heap.size + 1]? = some (.cells #[.slice (some ⟨b, off, none⟩) len c] 22 (0, 0)) := by
    rw [← hW0]
    exact (Below.heap_alloc _ _ _ (by simp)).trans hwS
  have hwN0 : W0.heap[wq.heap.size + 1 + 1]? = some (.cells #[.int .i64 8] 3 (0, 0)) := by
    rw [← hW0]
    exact hwN
  have hs0 : W0.heap.size = w.heap.size + 3 := by rw [← hW0]; simp; omega
  rw [hW0] at hB0 ⊢
  have hs1 : wq.heap.size + 1 + 1 < W0.heap.size := by omega
  have hs2 : w.heap.size < W0.heap.size := by omega
  clear hsz hs0 hW0
  clear hwS hwN bO
  refine wpIn_rangeFunc_ownG (w := W0) (ps := #[14]) (α := Ck len) (encs := fun x : Ck len => #[Value.slice (some ⟨b, off + 8 * x.1, none⟩) (cl len x.1) (cl len x.1)]) rfl (show 1 ≤ 4 by omega) (gf := 98) (lb := #[.pointer (some ⟨wq.heap.size + 1, 0, none⟩), .pointer (some ⟨wq.heap.size + 1 + 1, 0, none⟩)]) rfl trivial (enters_of Tryd.func98 (by kernel_rfl) rfl)
    (chunk_stops (4 - 1) (by omega) (wq.heap.size + 1) (wq.heap.size + 1 + 1) b off len c hl hc W0 hwS0 hwN0) (fun h k => kp_t h k) (kp_b (w := W0) (by omega) (by omega)) (Below.refl _ _) (fun _ => rfl)
    (fun pre W => (∃ v, Boxed W w.heap.size 22 v ∧ W.ownsRow w.heap.size 5 1 v (ints ((ckn pre).map fun j => pby l j 8)).length ((ints ((ckn pre).map fun j => pby l j 8)).map (Value.int .u8)) ∧ True) ∧ Below w.heap.size w W ∧ W.heap[wq.heap.size + 1]? = some (.cells #[.slice (some ⟨b, off, none⟩) len c] 22 (0, 0)) ∧ W.heap[wq.heap.size + 1 + 1]? = some (.cells #[.int .i64 8] 3 (0, 0)))
    (fun _ _ _ => False)
    (OwnFrom.and (Own.from (holdsRow_own w.heap.size w.heap.size 22 5 1 (fun pre => (ints ((ckn pre).map fun j => pby l j 8)).length) (fun pre => (ints ((ckn pre).map fun j => pby l j 8)).map (Value.int .u8)) (fun pre v => True)) _) (OwnFrom.and (ownFrom_below (Nat.le_refl _) (by omega)) (OwnFrom.and (blk_own _ _ _ _ _) (blk_own _ _ _ _ _))))
    (fun _ _ _ _ _ hs _ _ => hs)
    ⟨⟨_, hbx0, World.ownsRow_nil _ _ _ _, trivial⟩, hB0, hwS0, hwN0⟩
    (fun x => { tmps := #[.slice (some ⟨b, off, none⟩) len c, undef, .slice none 0 0, .int .i64 0, .pointer (some ⟨w.heap.size, 0, none⟩), .slice (some ⟨b, off + 8 * x.1, none⟩) (cl len x.1) (cl len x.1), undef, undef, undef, .slice (some ⟨b, off, none⟩) len c, .bool true, .bool false, .slice (some ⟨b, off, none⟩) len c, .func (.func 98) #[] #[.pointer (some ⟨wq.heap.size + 1, 0, none⟩), .pointer (some ⟨wq.heap.size + 1 + 1, 0, none⟩)], .slice (some ⟨b, off + 8 * x.1, none⟩) (cl len x.1) (cl len x.1), undef, undef, undef, undef, undef, undef, undef, undef, undef, undef, undef, undef, undef, undef, undef, undef, undef, undef, undef], defers := [] }) ?assign ?body ?done ?stop
  case assign =>
    intro r x W K hK
    gi_wp2
    exact hK
  case body =>
    rintro r pre ⟨j, hj⟩ W ⟨⟨v, hv, hrow, _⟩, hB, hS, hN⟩ hlt
    have hcv := hv.cell
    obtain ⟨m, hm⟩ : ∃ m, cl len j = m := ⟨_, rfl⟩
    obtain ⟨o, ho⟩ : ∃ o, off + 8 * j = o := ⟨_, rfl⟩
    rw [hm, ho]
    have hm8 : m ≤ 8 := by rw [← hm]; unfold cl; omega
    have HI := Aside0.mk (And.intro hv (And.intro hrow (And.intro hB (And.intro hlt (And.intro hm (And.intro ho (And.intro hS hN)))))))
    clear hm ho hv hrow hB hlt hS hN
    gi_wp2
    gi_loopw [6, 17] (fun x6 x17 wr => ∃ k : Nat, k ≤ m ∧ x17 = .int .i64 k ∧ x6 = .int .u8 ((pby l j k : Nat) : Int) ∧ wr = W) (fun _ x17 _ => m - (intOf x17).toNat)
    case atStart => exact ⟨0, Nat.zero_le _, rfl, rfl, rfl⟩
    case round =>
      obtain ⟨k, hk, rfl, rfl, rfl⟩ := hrel
      by_cases hkm : k < m
      · have hltk : (k : Int) < (m : Int) := by omega
        obtain ⟨hv, hrow, hB, hlt, hm, ho, _, _⟩ := HI.out
        have hqlen : 8 * j + k < len := by unfold cl at hm; omega
        obtain ⟨ad, hA, hcell⟩ := Kd.at_int (Kd.C_below HC.out.1 hB) ((8 * j + k : Nat) : Int) (by omega) (by omega)
        cases hA
        obtain ⟨g, hg⟩ : ∃ g, l.getD (8 * j + k) 0 = g := ⟨_, rfl⟩
        have hrd : rd (ints l) ((8 * j + k : Nat) : Int) = (g : Int) := by rw [← hg]; unfold rd; rw [Int.toNat_natCast]; exact ints_getD l _
        rw [hrd, Int.toNat_natCast, ← add_plain', ho] at hcell
        obtain ⟨s, e1, e2⟩ := pby_or HC.out.2.1 j k (by omega) hg
        obtain ⟨P1, hP1⟩ : ∃ P1, pby l j (k + 1) = P1 := ⟨_, rfl⟩
        rw [hP1] at e2
        have HP := Aside0.mk hP1
        have h7 : (k : Int) ≤ 7 := by omega
        have h7b : 0 ≤ 7 - (k : Int) := by omega
        have h7c : (7 - (k : Int)).toNat = 7 - k := by omega
        clear hP1 hrd hg hqlen hv hrow hB hlt hm ho
        gi_wp2
        exact ⟨⟨k + 1, by omega, by go_num, by rw [HP.out], trivial⟩, by simp only [intOf]; omega⟩
      · have hge : ¬ (k : Int) < (m : Int) := by omega
        obtain rfl : k = m := by omega
        obtain ⟨hv, hrow, hB, hlt, hm, ho, hS, hN⟩ := HI.out
        have hpall : pby l j k = pby l j 8 := pby_all (by rw [HC.out.2.2]; unfold cl at hm; omega) hm8
        obtain ⟨P, hP⟩ : ∃ P, pby l j k = P := ⟨_, rfl⟩
        rw [hP] at hpall ⊢
        have hbl : (ints ((ckn pre).map fun j => pby l j 8)).length ≤ 200000 := by rw [ints_len, List.length_map, ckn_len]; omega
        have HP := Aside0.mk (And.intro hpall (And.intro hm ho))
        clear hpall hP hm ho hge
        gi_wp2_with (gi_at_builtin; go_loud (refine wpListIn_append_own _ rfl _ _ 22 rfl w.heap.size 5 i0 (.int .u8 0) 1 1 Tryd.underlying22 hi hz0 hz1 hz2 rfl (by decide) _ _ _ rfl (hrow.alloc _) ⟨wr.heap.size, 0, none⟩ 1 1 [.int .u8 P] rfl rfl (cell_one_new _ _ _) (by simp [Value.oneCell']) (by unfold maxLen; omega) (by omega) (by have := hB.size; simp; omega) ?_; intro v' w1 hown' hgrow _; obtain ⟨g', cap', rfl⟩ := ownsRow_succ hown'; obtain ⟨hv1, hv2, hr2, hk2, hb2⟩ := hv.appended (by decide) hrow hB.size (Nat.le_refl _) hown' hgrow; have hc1 := hv1.cell; have hf1 := hv1.frozen))
        have hne1 := own_ne hrow hS (by decide)
        have hne2 := own_ne hrow hN (by decide)
        have k1 : ∀ g, g < wr.heap.size → some g ≠ v.ownBlock → g ≠ w.heap.size → ∀ u, (w1.setCell ⟨w.heap.size, 0, none⟩ u).heap[g]? = wr.heap[g]? := fun g hg hne hne' u =>
          (Below.heap_setCell w1 _ u g hne').trans ((hgrow.block g (by simp; omega) hne).trans (Below.heap_alloc wr _ g hg))
        have z1 := (Array.getElem?_eq_some_iff.1 hS).1
        have z2 := (Array.getElem?_eq_some_iff.1 hN).1
        have hK1 := k1 _ z1 hne1 (by have := HSZ.out; omega)
        have hK2 := k1 _ z2 hne2 (by have := HSZ.out; omega)
        refine ⟨hk2.from _, ⟨hK1 _, hK2 _⟩, ⟨⟨_, hv2, ?_, trivial⟩, hB.trans hb2, (hK1 _).trans hS, (hK2 _).trans hN⟩⟩
        have hf : ints ((ckn (pre ++ [⟨j, hj⟩])).map fun j => pby l j 8) = ints ((ckn pre).map fun j => pby l j 8) ++ [(P : Int)] := by
          rw [ckn_snoc, List.map_append, HP.out.1, ints_append]
          rfl
        rw [hf, List.map_append, List.length_append]
        exact hr2
  case done =>
    rintro D ys W hD hys ⟨⟨v, hv, hrow, _⟩, hB, hS, hN⟩ hK
    have hcv := hv.cell
    have hf : ints ((ckn ys).map fun j => pby l j 8) = ints (bytesB l) := by
      rw [hys]
      unfold bytesB
      rw [HC.out.2.2]
    rw [hf] at hrow
    have HH := Aside0.mk (And.intro hrow (And.intro hB hK))
    clear hf hrow hB hS hN hK hys
    gi_wp2
    refine ⟨by simp, .inl ⟨_, _, rfl, run_takeDeferred HH.out.2.2, ?_⟩⟩
    refine ⟨.tuple #[v, .int .i64 0], by simp [results, Tryd.results54, go_sem], v, rfl, ?_, ?_⟩
    · have := ownsRow_putObj HH.out.1 (.deferred none) HH.out.2.2 rfl
      rw [ints_len] at this
      exact this
    · exact HH.out.2.1.trans (belowK_b (w := w) (Nat.le_refl _) W D _ _ (by omega) HH.out.2.2 rfl rfl)
  case stop =>
    rintro D c pre W _ _ h _
    exact h.elim
set_option maxRecDepth 100000 in
set_option maxHeartbeats 3200000 in
theorem Bytes_none (A : Option Addr) (c : Nat) (w : World) (hC : (Kd.int .u8).C w A 0 []) :
    Calls Tryd.prog 54 #[.slice A 0 c] w fun e w' => ∃ v, e = .returned (.tuple #[v, .int .i64 0]) ∧ w'.ownsRow w.heap.size 5 1 v 0 [] ∧ Below w.heap.size w w' := by
  have hr := BRight_any [] A 0 c w hC (by omega) (by omega)
  have HR := Aside0.mk hr
  clear hr hC
  refine (callsIn_wide (n := 4)).1 ?_
  refine callsIn_of_wp_marks Tryd.func54 rfl trivial ?_ rfl
  simp only [Tryd.ntmps54, List.size_toArray, List.length_cons, List.length_nil, Nat.reduceAdd, Nat.reduceSub, Array.replicate_succ, Array.replicate_zero, List.push_toArray, List.append_toArray, List.nil_append, List.cons_append]
  gi_wp2_with (refine ⟨trivial, ?_⟩; gi_at_call 48; refine (callsIn_wide.2 HR.out).mono ?_; rintro e w1 ⟨rfl, q1, rfl⟩)
  refine ⟨trivial, ?_⟩
  gi_at_call 81
  refine (chunk_in 3 _ _ _ _).mono ?_
  rintro e w2 ⟨rfl, rfl⟩
  obtain ⟨wq, hwq⟩ : ∃ wq, w.drewN q1 = wq := ⟨_, rfl⟩
  have hsz : w.heap.size = wq.heap.size := by rw [← hwq]; rfl
  have hBq : Below w.heap.size w wq := by rw [← hwq]; exact pw_below_drewN (Below.refl _ _) q1
  rw [hwq]
  have bO := Boxed.new wq 22 (.slice none 0 0)
  have hwS : ((wq.alloc (.cells #[.slice none 0 0] 22)).alloc (.cells #[.slice A 0 c] 22)).heap[wq.heap.size + 1]? = some (.cells #[.slice A 0 c] 22 (0, 0)) := by
    have := heap_alloc_new (wq.alloc (.cells #[.slice none 0 0] 22)) (.cells #[.slice A 0 c] 22)
    rw [World.size_alloc] at this
    exact this
  have hB0 : Below w.heap.size w (((wq.alloc (.cells #[.slice none 0 0] 22)).alloc (.cells #[.slice A 0 c] 22)).alloc (.cells #[.int .i64 8] 3)) :=
    ((hBq.alloc (by omega) _).alloc (by simp; omega) _).alloc (by simp; omega) _
  have HSZ := Aside0.mk hsz
  have HX0 := Aside0.mk (And.intro bO (And.intro hwS hB0))
  clear hsz hwq bO hwS hB0 hBq
  gi_wp2
  have hsz := HSZ.out
  obtain ⟨bO, hwS, hB0⟩ := HX0.out
  obtain ⟨W0, hW0⟩ : ∃ W0, ((wq.alloc (.cells #[.slice none 0 0] 22)).alloc (.cells #[.slice A 0 c] 22)).alloc (.cells #[.int .i64 8] 3) = W0 := ⟨_, rfl⟩
  have hbx0 : Boxed W0 w.heap.size 22 (.slice none 0 0) := by
    rw [← hW0, hsz]
    exact (bO.alloc _).alloc _
  have hwS0 : W0.heap[wq.heap.size + 1]? = some (.cells #[.slice A 0 c] 22 (0, 0)) := by
    rw [← hW0]
    exact (Below.heap_alloc _ _ _ (by simp)).trans hwS
  have hs0 : W0.heap.size = w.heap.size + 3 := by rw [← hW0]; simp; omega
  rw [hW0] at hB0 ⊢
  have hs1 : wq.heap.size + 1 + 1 < W0.heap.size := by omega
  have hs2 : w.heap.size < W0.heap.size := by omega
  clear hsz hs0 hW0
  refine wpIn_rangeFunc_ownG (w := W0) (ps := #[14]) (α := Ck 0) (encs := fun x : Ck 0 => #[Value.slice A (cl 0 x.1) (cl 0 x.1)]) rfl (show 1 ≤ 4 by omega) (gf := 98) (lb := #[.pointer (some ⟨wq.heap.size + 1, 0, none⟩), .pointer (some ⟨wq.heap.size + 1 + 1, 0, none⟩)]) rfl trivial (enters_of Tryd.func98 (by kernel_rfl) rfl)
    (chunk_none (4 - 1) (by omega) (wq.heap.size + 1) (wq.heap.size + 1 + 1) A c W0 hwS0) (fun h k => kp_t h k) (kp_b (w := W0) (by omega) (by omega)) (Below.refl _ _) (fun _ => rfl)
    (fun pre W => (∃ v, Boxed W w.heap.size 22 v ∧ W.ownsRow w.heap.size 5 1 v 0 [] ∧ True) ∧ Below w.heap.size w W)
    (fun _ _ _ => False)
    (OwnFrom.and (Own.from (holdsRow_own w.heap.size w.heap.size 22 5 1 (fun pre => 0) (fun pre => []) (fun pre v => True)) _) (ownFrom_below (Nat.le_refl _) (by omega)))
    (fun _ _ _ _ _ hs _ _ => hs)
    ⟨⟨_, hbx0, World.ownsRow_nil _ _ _ _, trivial⟩, hB0⟩
    (fun x => { tmps := #[.slice A 0 c, undef, .slice none 0 0, .int .i64 0, .pointer (some ⟨w.heap.size, 0, none⟩), .slice A (cl 0 x.1) (cl 0 x.1), undef, undef, undef, .slice A 0 c, .bool true, .bool false, .slice A 0 c, .func (.func 98) #[] #[.pointer (some ⟨wq.heap.size + 1, 0, none⟩), .pointer (some ⟨wq.heap.size + 1 + 1, 0, none⟩)], .slice A (cl 0 x.1) (cl 0 x.1), undef, undef, undef, undef, undef, undef, undef, undef, undef, undef, undef, undef, undef, undef, undef, undef, undef, undef, undef], defers := [] }) ?assign ?body ?done ?stop
  case assign =>
    intro r x W K hK
    gi_wp2
    exact hK
  case body =>
    rintro r pre x W _ hlt
    exact absurd hlt (Nat.not_lt_zero _)
  case done =>
    rintro D ys W hD hys ⟨⟨v, hv, hrow, _⟩, hB⟩ hK
    have hcv := hv.cell
    have HH := Aside0.mk (And.intro hrow (And.intro hB hK))
    clear hrow hB hK hys
    gi_wp2
    refine ⟨by simp, .inl ⟨_, _, rfl, run_takeDeferred HH.out.2.2, ?_⟩⟩
    refine ⟨.tuple #[v, .int .i64 0], by simp [results, Tryd.results54, go_sem], v, rfl, ?_, ?_⟩
    · exact ownsRow_putObj HH.out.1 (.deferred none) HH.out.2.2 rfl
    · exact HH.out.2.1.trans (belowK_b (w := w) (Nat.le_refl _) W D _ _ (by omega) HH.out.2.2 rfl rfl)
  case stop =>
    rintro D c pre W _ _ h _
    exact h.elim
/-- bits.Bytes of a row of bits. -/
theorem Bytes_any (l : List Nat) (hb : Bits l) (hl : l.length ≤ 1000000) (v : Value) (w : World) (base : Nat) (ok : Nat → Prop) (hR : (Kd.int .u8).R 5 w base ok v (ints l)) :
    Calls Tryd.prog 54 #[v] w fun e w' => ∃ u, e = .returned (.tuple #[u, .int .i64 0]) ∧ (Kd.int .u8).R 5 w' w.heap.size (fun k => w.heap.size ≤ k) u (ints (bytesB l)) ∧ Below w.heap.size w w' := by
  by_cases h0 : l = []
  · subst h0
    obtain ⟨A, c, rfl, _, hC⟩ := Kd.R_reads hR
    refine (Bytes_none A c w hC).mono ?_
    rintro e w' ⟨u, he, ho, hB⟩
    exact ⟨u, he, Kd.R_of_own ho (fun k hk => own_base ho k hk), hB⟩
  · have hpos : 0 < l.length := List.length_pos_iff.2 h0
    obtain ⟨g, cap, rfl, _⟩ := Kd.R_form hR (by rw [ints_len]; exact hpos)
    obtain ⟨A, c, he, hc, hC⟩ := Kd.R_reads hR
    cases he
    rw [ints_len] at hC hc ⊢
    refine (Bytes_some l hb g 0 cap l.length rfl w hC hc hl).mono ?_
    rintro e w' ⟨u, he, ho, hB⟩
    rw [← ints_len] at ho
    exact ⟨u, he, Kd.R_of_own ho (fun k hk => own_base ho k hk), hB⟩
end Go.Proofs.YtnejnnfjbhpigaaDoor.Chk
