/- Plain words of this seat's walks, and the wheel in memory: each theorem says its own conditions. -/
import Derived.Test.YtjiligngjlejmaaMem
import Derived.Test.YtjiligngjlejmaaShelf
import Derived.Test.YtjiligngjlejmaaProg
import Derived.Below
import Derived.Deep.Draws
import Derived.Deep.AppendLies
import Derived.Maps.AppendAt
import Derived.OwnWalk
import Derived.Laws.BytesArg
import Derived.Laws.MakeOwn
import Derived.Laws.OwnMore
import Derived.Deep.OwnRows
import Derived.Tactics
import Derived.Lib.ConvBytes
import Derived.Laws.Slices
import Derived.WalkKit
import Derived.KernelRfl
import Derived.RowKit3
import Derived.Deep.LoopGhost
import Derived.Deep.QuietTactic
import Derived.BigQuiet
import Derived.WideLaws
import Derived.Deep.DeepCutAuto
import Derived.Deep.CutBlock
import Derived.Deep.CutRange
import Derived.Deep.RegionHeld3
import Derived.Laws.Rows
import Derived.Lib.AppendStr
import Derived.ArgAppend
import Derived.Laws.IdiomCopy
import Derived.OrdersHeld
import Derived.Laws.BitsLemmas
import Derived.RowKit
import Derived.WalkSpells
import Derived.Maps.OwnSet
import Derived.BigRegion
import Derived.Deep.RegionLaw
namespace Go.Proofs.Ytjiligngjlejmaa.Vit
open Go.RowKit Go.Proofs.YtjiligngjlejmaaW.PrintWords Go.Proofs.YtjiligngjlejmaaW.PrintLast Go.Proofs.YtjiligngjlejmaaW.PrintMore Go.Proofs.Ytjiligngjlejmaa.Mem
attribute [local go_sem] max2_int min2_int max_two min_two max_three min_three max_four min_four   -- for this text's walks alone
set_option linter.unusedVariables false
set_option linter.unusedSimpArgs false

theorem wrap64_in (x : Int) (h1 : -9223372036854775808 ≤ x) (h2 : x ≤ 9223372036854775807) : wrap64 x = x := by unfold wrap64; omega
theorem lies_lt {w : World} {a : Addr} {v : Value} (h : w.cell? a = some v) : a.block < w.heap.size := by
  unfold World.cell? at h
  split at h
  · rename_i hb
    exact (Array.getElem?_eq_some_iff.1 hb).1
  · simp at h
theorem below_cell {w wx : World} (hb : Below w.heap.size w wx) {a : Addr} {v : Value} (h : w.cell? a = some v) : wx.cell? a = some v := (hb.cell (lies_lt h)).trans h
theorem below_cell_blk {w W : World} (hB : Below w.heap.size w W) {b : Nat} {o : Obj} (h : w.heap[b]? = some o) : W.heap[b]? = some o := (hB.block b (Array.getElem?_eq_some_iff.1 h).1).trans h
theorem C_block {k : IntKind} {W : World} {b t : Nat} (xs : List Int) (hl : xs.length ≤ 9223372036854775807) (h : W.heap[b]? = some (.cells (xs.map (Value.int k)).toArray t (0, 0))) : (Kd.int k).C W (some ⟨b, 0, none⟩) xs.length xs := by
  refine ⟨rfl, hl, fun _ => ⟨_, rfl, fun j p hj => ⟨[.int k p], rfl, rfl, fun i u hu => ?_⟩⟩⟩
  match i, hu with
  | 0, hu =>
    obtain rfl : Value.int k p = u := by simpa using hu
    have e : (⟨b, 0, none⟩ : Addr).add (j * (Kd.int k).sz + 0) = ⟨b, j, none⟩ := by
      show (⟨b, 0, none⟩ : Addr).add (j * 1 + 0) = _
      unfold Addr.add
      split <;> simp_all
    rw [e, blk_cell h]
    simp [hj]
  | i + 1, hu => simp at hu

/-- Numbers as Go's. -/
def ints (l : List Nat) : List Int := l.map fun (x : Nat) => (x : Int)
theorem ints_len (l : List Nat) : (ints l).length = l.length := by simp [ints]
theorem ints_snoc (l : List Nat) (x : Nat) : ints (l ++ [x]) = ints l ++ [(x : Int)] := by simp [ints]

/-! ### The map of ticks -/
open Go.Maps
abbrev ky (a : Nat) : Lit := .int .u16 (a : Int)
theorem ky_ne {a b : Nat} (h : a ≠ b) : ky a ≠ ky b := fun e => by injection e with _ e; omega
theorem law29 : Keyed Try.prog 29 := int_keyed Try.underlying29
theorem zero3 (w : World) : (zeroValue 3).run Try.prog w = .ok (.int .i64 0) w := by kernel_rfl
theorem ky_wf {a : Nat} (h : a < 65536) : (Lit.int .u16 (a : Int)).wf = true := by
  have : IntKind.u16.min ≤ (a : Int) ∧ (a : Int) ≤ IntKind.u16.max := by
    have e1 : IntKind.u16.min = 0 := by decide
    have e2 : IntKind.u16.max = 65535 := by decide
    rw [e1, e2]
    omega
  simpa [Lit.wf] using this
theorem ky_of {a : Nat} (h : a < 65536) : keyOf Try.prog 29 (.int .u16 (a : Int)) = some (ky a) := keyOf_int_mk Try.underlying29 (ky_wf h)
theorem ky_lit (a : Nat) : WideAt.IsKeyLit (ky a) := by simp [WideAt.IsKeyLit]
theorem i64_wf {t : Int} (h : -9223372036854775808 ≤ t ∧ t ≤ 9223372036854775807) : (Lit.int .i64 t).wf = true := by
  have : IntKind.i64.min ≤ t ∧ t ≤ IntKind.i64.max := by
    have e1 : IntKind.i64.min = -9223372036854775808 := by decide
    have e2 : IntKind.i64.max = 9223372036854775807 := by decide
    rw [e1, e2]
    exact h
  simpa [Lit.wf] using this
abbrev i64d (t : Int) : DataW Unit := .lit (.int .i64 t)
/-- A map of numbers' ticks. -/
def MapIs (W : World) (m n c : Nat) (f : Nat → Option Nat) : Prop :=
  ∃ D : DataW Unit, W.ownsMap Try.prog 29 (plainElem Try.prog 3) m n D ∧ (∀ a, a < 65536 → Maps.has D (ky a) = (f a).isSome ∧ ∀ t, f a = some t → D.atKey (ky a) (i64d 0) = i64d (t : Int)) ∧ Maps.size D = c
theorem MapIs.keep {W W' : World} {m n c : Nat} {f : Nat → Option Nat} (h : MapIs W m n c f) (hb : W'.heap[m]? = W.heap[m]?) : MapIs W' m n c f := by
  obtain ⟨D, ⟨es, cl, h1, h2⟩, h3⟩ := h
  exact ⟨D, ⟨es, cl, hb.trans h1, h2⟩, h3⟩
theorem MapIs.lt {W : World} {m n c : Nat} {f : Nat → Option Nat} (h : MapIs W m n c f) : m < W.heap.size := by
  obtain ⟨D, ⟨es, cl, h1, h2⟩, h3⟩ := h
  exact (Array.getElem?_eq_some_iff.1 h1).1
theorem MapIs.typed {W : World} {m n c : Nat} {f : Nat → Option Nat} (h : MapIs W m n c f) {k t : Nat} {X : Array Value} {fr : Nat × Nat} (hk : W.heap[k]? = some (.cells X t fr)) : k ≠ m := fun e => by
  obtain ⟨D, ⟨es, cl, h1, h2⟩, h3⟩ := h
  rw [e, h1] at hk
  cases hk
theorem MapIs.miss {W : World} {m n c a : Nat} {f : Nat → Option Nat} (h : MapIs W m n c f) (ha : a < 65536) (hf : f a = none) :
    (Instr.lookup 48 (.map (some m)) (.int .u16 (a : Int)) true).run Try.prog W = .ok (.tuple #[.int .i64 0, .bool false]) W := by
  obtain ⟨D, h1, h2, _⟩ := h
  obtain ⟨hh, _⟩ := h2 a ha
  rw [hf] at hh
  obtain ⟨v, ps, hr, hv⟩ := h1.look_ok law29 Try.underlying48 (zero3 W) (plainElem_int Try.underlying3 (by decide)) (ky_of ha)
  rw [hh] at hr
  rw [Maps.atKey_of_not_has hh] at hv
  obtain ⟨x, rfl, hx, _⟩ := plainElem_int_inv Try.underlying3 hv
  have hx0 : x = 0 := by
    have := congrArg Prod.fst hx
    simp at this
    omega
  rw [hx0] at hr
  exact hr
theorem MapIs.hit {W : World} {m n c a t : Nat} {f : Nat → Option Nat} (h : MapIs W m n c f) (ha : a < 65536) (hf : f a = some t) :
    (Instr.lookup 48 (.map (some m)) (.int .u16 (a : Int)) true).run Try.prog W = .ok (.tuple #[.int .i64 (t : Int), .bool true]) W := by
  obtain ⟨D, h1, h2, _⟩ := h
  obtain ⟨hh, ht⟩ := h2 a ha
  rw [hf] at hh
  obtain ⟨v, ps, hr, hv⟩ := h1.look_ok law29 Try.underlying48 (zero3 W) (plainElem_int Try.underlying3 (by decide)) (ky_of ha)
  have h4 : D.atKey (ky a) (.lit (.int .i64 0)) = .lit (.int .i64 (t : Int)) := ht t hf
  rw [h4] at hv
  rw [hh] at hr
  obtain ⟨x, rfl, hx, _⟩ := plainElem_int_inv Try.underlying3 hv
  have hx0 : x = (t : Int) := by
    have := congrArg Prod.fst hx
    simp at this
    omega
  rw [hx0] at hr
  exact hr
theorem MapIs.hit1 {W : World} {m n c a t : Nat} {f : Nat → Option Nat} (h : MapIs W m n c f) (ha : a < 65536) (hf : f a = some t) :
    (Instr.lookup 48 (.map (some m)) (.int .u16 (a : Int)) false).run Try.prog W = .ok (.int .i64 (t : Int)) W := by
  obtain ⟨D, h1, h2, _⟩ := h
  obtain ⟨hh, ht⟩ := h2 a ha
  obtain ⟨v, ps, hr, hv⟩ := h1.lookup law29 Try.underlying48 (zero3 W) (plainElem_int Try.underlying3 (by decide)) (ky_of ha)
  have h4 : D.atKey (ky a) (.lit (.int .i64 0)) = .lit (.int .i64 (t : Int)) := ht t hf
  rw [h4] at hv
  obtain ⟨x, rfl, hx, _⟩ := plainElem_int_inv Try.underlying3 hv
  have hx0 : x = (t : Int) := by
    have := congrArg Prod.fst hx
    simp at this
    omega
  rw [hx0] at hr
  exact hr
/-- So much is set of a number. -/
def upd (f : Nat → Option Nat) (a : Nat) (t : Option Nat) : Nat → Option Nat := fun x => if x = a then t else f x
theorem MapIs.put {W : World} {m n c a t : Nat} {f : Nat → Option Nat} (h : MapIs W m n c f) (ha : a < 65536) (hn : n < 4294967296) (ht : t ≤ 9223372036854775807) :
    ∃ W', (Instr.mapUpdate 48 (.map (some m)) (.int .u16 (a : Int)) (.int .i64 (t : Int))).run Try.prog W = .ok () W' ∧ MapIs W' m (n + 1) (if (f a).isSome then c else c + 1) (upd f a (some t)) ∧ W.mapTurned W' m := by
  obtain ⟨D, h1, h2, h3⟩ := h
  obtain ⟨W', hr, h5, h6⟩ := h1.store law29 Try.underlying48 (by unfold maxLen; omega) (ky_of ha) (plainElem_int Try.underlying3 (i64_wf (t := (t : Int)) (by omega)))
  have htd := h1.tidy law29
  refine ⟨W', hr, ⟨_, h5, fun x hx => ?_, ?_⟩, h6⟩
  · unfold upd
    by_cases hxa : x = a
    · subst hxa
      rw [if_pos rfl, Maps.has_put_same htd.isMap (ky_lit x)]
      refine ⟨rfl, fun s hs => ?_⟩
      rw [Maps.atKey_put_same htd.isMap (ky_lit x)]
      obtain rfl := Option.some.inj hs
      rfl
    · rw [if_neg hxa, Maps.has_put_other (ky_ne hxa), Maps.atKey_put_other (ky_ne hxa)]
      exact h2 x hx
  · rw [Maps.size_put htd, (h2 a ha).1, h3]
theorem MapIs.drop {W : World} {m n c a t : Nat} {f : Nat → Option Nat} (h : MapIs W m n (c + 1) f) (ha : a < 65536) (hf : f a = some t) (ty : TypeId) :
    ∃ W', (Builtin.delete_ #[48, 29] ty #[.map (some m), .int .u16 (a : Int)]).run Try.prog W = .ok (.tuple #[]) W' ∧ MapIs W' m n c (upd f a none) ∧ W.mapTurned W' m := by
  obtain ⟨D, h1, h2, h3⟩ := h
  obtain ⟨W', hr, h5, h6⟩ := h1.drop law29 Try.underlying48 (ky_of ha) ty
  have htd := h1.tidy law29
  refine ⟨W', hr, ⟨_, h5, fun x hx => ?_, ?_⟩, h6⟩
  · unfold upd
    by_cases hxa : x = a
    · subst hxa
      rw [if_pos rfl, Maps.has_del_same]
      exact ⟨rfl, fun s hs => by cases hs⟩
    · rw [if_neg hxa, Maps.has_del_other (ky_ne hxa), Maps.atKey_del_other (ky_ne hxa)]
      exact h2 x hx
  · have hs := Maps.size_del (k := ky a) htd
    rw [(h2 a ha).1, hf, h3] at hs
    simp at hs
    omega
theorem MapIs.len {W : World} {m n c : Nat} {f : Nat → Option Nat} (h : MapIs W m n c f) (ty : TypeId) : (Builtin.len_ #[48] ty #[.map (some m)]).run Try.prog W = .ok (.int .i64 (c : Nat)) W := by
  obtain ⟨D, h1, _, h3⟩ := h
  have := h1.len Try.underlying48 ty
  rw [h3] at this
  exact this
theorem MapIs.made (w : World) : MapIs (w.alloc (.map #[] 0)) w.heap.size 0 0 (fun _ => none) :=
  ⟨_, World.ownsMap_made _ _ _ _, fun a ha => ⟨rfl, fun t ht => by cases ht⟩, rfl⟩
end Go.Proofs.Ytjiligngjlejmaa.Vit
