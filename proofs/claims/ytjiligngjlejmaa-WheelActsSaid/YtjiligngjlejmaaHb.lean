/- Plain words: a row of numbers is rewritten (slices.DeleteFunc's world), and stays a row. -/
import Derived.Test.YtjiligngjlejmaaHa
namespace Go.Proofs.Ytjiligngjlejmaa.Vit
open Go.RowKit Go.Proofs.YtjiligngjlejmaaW.PrintWords Go.Proofs.YtjiligngjlejmaaW.PrintLast Go.Proofs.YtjiligngjlejmaaW.PrintMore Go.Proofs.Ytjiligngjlejmaa.Mem
set_option linter.unusedVariables false
set_option linter.unusedSimpArgs false

/-- Cells stored one behind the other. -/
def sets (c : Array Value) : Nat → List Value → Array Value
  | _, [] => c
  | o, v :: r => sets (c.setIfInBounds o v) (o + 1) r
theorem sets_size : ∀ (vs : List Value) (o : Nat) (c : Array Value), (sets c o vs).size = c.size
  | [], _, _ => rfl
  | v :: r, o, c => by unfold sets; rw [sets_size r, Array.size_setIfInBounds]
theorem sets_get : ∀ (vs : List Value) (o : Nat) (c : Array Value) (k : Nat), (sets c o vs)[k]? = if o ≤ k ∧ k < o + vs.length ∧ k < c.size then vs[k - o]? else c[k]?
  | [], o, c, k => by
    rw [if_neg (by simp; omega)]
    rfl
  | v :: r, o, c, k => by
    unfold sets
    rw [sets_get r, Array.size_setIfInBounds, List.length_cons]
    by_cases h1 : k = o
    · subst h1
      by_cases h2 : k < c.size
      · rw [if_neg (by omega), if_pos (by omega), Array.getElem?_setIfInBounds_self_of_lt h2, Nat.sub_self]
        rfl
      · rw [if_neg (by omega), if_neg (by omega), Array.getElem?_eq_none (by simp; omega), Array.getElem?_eq_none (by omega)]
    · rw [Array.getElem?_setIfInBounds_ne (by omega)]
      by_cases h2 : o + 1 ≤ k ∧ k < o + 1 + r.length ∧ k < c.size
      · rw [if_pos h2, if_pos (by omega), show k - o = (k - (o + 1)) + 1 by omega, List.getElem?_cons_succ]
      · rw [if_neg h2, if_neg (by omega)]
theorem setCells_map (g : Nat) : ∀ (vs : List Value) (o : Nat) (w : World), w.setCells g o vs = Sort.mapBlock w g (fun c => sets c o vs)
  | [], o, w => (Sort.mapBlock_id w g _ (fun c _ _ _ => rfl)).symm
  | v :: r, o, w => by
    show (w.setCell ⟨g, o, none⟩ v).setCells g (o + 1) r = _
    rw [setCells_map g r, Sort.setCell_eq, Sort.mapBlock_mapBlock]
    rfl
theorem putRow_setCells (k : IntKind) (w : World) (g off : Nat) (d : Array Int) : Sort.putRow (Value.int k) w g off d = w.setCells g off (d.toList.map (Value.int k)) := by
  rw [setCells_map]
  unfold Sort.putRow
  congr 1
  funext c
  apply Array.ext_getElem?
  intro i
  rw [sets_get, List.length_map, Array.length_toList]
  unfold Sort.putCells
  rw [Array.getElem?_mapIdx]
  by_cases h : off ≤ i ∧ i < off + d.size ∧ i < c.size
  · rw [if_pos h, Array.getElem?_eq_getElem h.2.2, Option.map_some, if_pos ⟨h.1, h.2.1⟩, List.getElem?_map, Array.getElem?_toList, getElem!_pos d (i - off) (by omega), Array.getElem?_eq_getElem (by omega)]
    rfl
  · rw [if_neg h]
    by_cases h2 : i < c.size
    · rw [Array.getElem?_eq_getElem h2, Option.map_some, if_neg (fun h3 => h ⟨h3.1, h3.2, h2⟩)]
    · rw [Array.getElem?_eq_none (by omega)]
      rfl
theorem Q_sets {k : IntKind} {e base g o n cap : Nat} {ok : Nat → Prop} : ∀ (ys : List Int) (i : Nat) (W : World) (xs : List Int), (Kd.int k).Q e W base ok (.slice (some ⟨g, o, none⟩) n cap) xs → i + ys.length ≤ xs.length →
    (Kd.int k).Q e (W.setCells g (o + i) (ys.map (Value.int k))) base ok (.slice (some ⟨g, o, none⟩) n cap) (xs.take i ++ ys ++ xs.drop (i + ys.length))
  | [], i, W, xs, h, _ => by
    rw [List.append_nil, List.length_nil, Nat.add_zero, List.take_append_drop]
    exact h
  | y :: ys, i, W, xs, h, hl => by
    have hn := (Kd.Q_reads' h).1
    rw [List.length_cons] at hl
    have h1 := (Kd.Q_putg h (i : Int) (by omega) (by omega) y).1
    rw [Int.toNat_natCast] at h1
    have h2 := Q_sets (k := k) ys (i + 1) _ _ h1 (by rw [List.length_set]; omega)
    have e : (xs.set i y).take (i + 1) ++ ys ++ (xs.set i y).drop (i + 1 + ys.length) = xs.take i ++ y :: ys ++ xs.drop (i + (y :: ys).length) := by
      rw [List.drop_set_of_lt (by omega), List.take_set, List.take_succ_eq_append_getElem (by omega), List.set_append_right i y (by rw [List.length_take]; omega)]
      rw [show i - (xs.take i).length = 0 by rw [List.length_take]; omega]
      simp only [List.set_cons_zero, List.append_assoc, List.cons_append, List.nil_append, List.length_cons]
      rw [show i + 1 + ys.length = i + (ys.length + 1) by omega]
    rw [e] at h2
    exact h2
/-- A row of numbers behind slices.DeleteFunc. -/
theorem Q_deleted {k : IntKind} {e base g o n cap : Nat} {ok : Nat → Prop} {W : World} {xs ys zs : List Int} (h : (Kd.int k).Q e W base ok (.slice (some ⟨g, o, none⟩) n cap) xs) (hl : (ys ++ zs).length = xs.length) :
    (Kd.int k).Q e (Sort.putRow (Value.int k) W g o (ys ++ zs).toArray) base ok (.slice (some ⟨g, o, none⟩) ys.length cap) ys := by
  have h1 := Q_sets (k := k) (ys ++ zs) 0 W xs h (by omega)
  rw [List.take_zero, List.nil_append, Nat.zero_add, hl, List.drop_length, List.append_nil, Nat.add_zero] at h1
  rw [putRow_setCells]
  have h2 := Kd.Q_take h1 (m := ys.length) (by rw [List.length_append]; omega)
  rw [List.take_left] at h2
  exact h2
theorem putRow_other {k : IntKind} {W : World} {g o : Nat} {d : Array Int} {j : Nat} (h : j ≠ g) : (Sort.putRow (Value.int k) W g o d).heap[j]? = W.heap[j]? := by
  rw [putRow_setCells]
  exact setCells_far _ _ _ h
theorem holds_of_Q {k : IntKind} {e base g o n cap : Nat} {ok : Nat → Prop} {W : World} {xs : List Int} (h : (Kd.int k).Q e W base ok (.slice (some ⟨g, o, none⟩) n cap) xs) : Sort.Holds (Value.int k) W g o xs.toArray := by
  intro j hj
  have hn := (Kd.Q_reads' h).1
  have hj' : j < xs.length := by simpa using hj
  have h1 := Kd.Q_cell 0 h (j : Int) (by omega) (by omega)
  rw [Int.toNat_natCast] at h1
  refine ⟨?_, h1.2⟩
  rw [h1.1]
  refine congrArg (fun x => some (Value.int k x)) ?_
  show xs.getD (j : Int).toNat 0 = xs.toArray[j]!
  rw [Int.toNat_natCast, List.getD_eq_getElem?_getD, List.getElem?_eq_getElem hj', getElem!_pos xs.toArray j hj]
  simp
end Go.Proofs.Ytjiligngjlejmaa.Vit
