/- Plain words: what reads as data of a type reads by a kind of the print's words; and the size that a row's weight allows. -/
import Derived.Test.YtjiligngjlejmaaWWords
import Derived.Test.YtjiligngjlejmaaWArr
import Derived.ProofKit
import Derived.OpenShut
import Derived.Deep.Slices
import Derived.Deep.Strs
import Derived.SizedLaws
namespace Go.Proofs.Ytjiligngjlejmaa.Opn
open Go.RowKit Go.Deep Go.Proofs.YtjiligngjlejmaaW.PrintWords

theorem add_add_ (a : Addr) (i j : Nat) : a.add (i + j) = (a.add i).add j := by
  unfold Addr.add
  by_cases h1 : i = 0
  · subst h1
    simp
  · by_cases h2 : j = 0
    · subst h2
      simp [h1]
    · simp [h1, h2, Nat.add_assoc]

/-- What reads as data of type t reads by the kind d; of its value ok holds. -/
def Opens {α : Type} (P : Program) (t : TypeId) (d : Kd α) (ok : α → Prop) : Prop :=
  ∀ (H : Type) (enc : TypeId × Value → H) (w : World) (base : Nat) (spare : Nat → Bool) (held : Bool) (fuel : Nat) (cs : List Value) (x : DataW H × List MemPlace),
    DataW.trod enc P w base spare held fuel t cs = some x → ∃ v, d.K w v cs ∧ ok v

theorem opens_int {P : Program} {t : TypeId} {k : IntKind} (ht : P.underlying t = some (.int k)) : Opens P t (Kd.int k) (fun n => (Lit.int k n).wf = true) := by
  intro H enc w base spare held fuel cs x h
  obtain ⟨n, rfl, _, hn⟩ := DataW.trod_int ht h
  exact ⟨n, rfl, hn⟩
theorem opens_bool {P : Program} {t : TypeId} (ht : P.underlying t = some .bool) : Opens P t Kd.bool (fun _ => True) := by
  intro H enc w base spare held fuel cs x h
  obtain ⟨n, rfl, _⟩ := DataW.trod_bool ht h
  exact ⟨n, rfl, trivial⟩
theorem opens_string {P : Program} {t : TypeId} (ht : P.underlying t = some .string) : Opens P t Kd.string (fun _ => True) := by
  intro H enc w base spare held fuel cs x h
  obtain ⟨n, rfl, _⟩ := DataW.trod_string ht h
  exact ⟨n, rfl, trivial⟩

theorem opens_slice {α : Type} {P : Program} {t e : TypeId} {d : Kd α} {ok : α → Prop} (ht : P.underlying t = some (.slice e)) (hc : P.cellsOf e = d.sz) (h : Opens P e d ok) :
    Opens P t (Kd.slice e d) (fun l => ∀ v ∈ l, ok v) := by
  intro H enc w base spare held fuel cs x hx
  rcases open_slice ht hx with ⟨rfl, _⟩ | ⟨a, len, cap, m, n, D, Pl, rfl, hb, hl, hm, hmm, _, hel⟩
  · exact ⟨[], ⟨none, 0, rfl, Nat.zero_le _, rfl, Nat.zero_le _, fun hp => absurd hp (Nat.lt_irrefl 0)⟩, fun v hv => by cases hv⟩
  · have hlm : len ≤ m := by rw [hmm]; split <;> omega
    have each : ∀ i, i < len → ∃ q : α × List Value, w.cells? base (a.add (i * d.sz)) d.sz = some q.2 ∧ d.K w q.1 q.2 ∧ ok q.1 := by
      intro i hi
      obtain ⟨cs', h1, h2⟩ := hel i (by omega)
      rw [hc] at h1
      obtain ⟨v, hv, hok⟩ := h _ _ _ _ _ _ _ _ _ h2
      exact ⟨(v, cs'), h1, hv, hok⟩
    rcases Nat.eq_zero_or_pos len with h0 | hpos
    · subst h0
      exact ⟨[], ⟨some a, cap, rfl, Nat.zero_le _, rfl, Nat.zero_le _, fun hp => absurd hp (Nat.lt_irrefl 0)⟩, fun v hv => by cases hv⟩
    · obtain ⟨q0, _⟩ := each 0 hpos
      haveI : Inhabited (α × List Value) := ⟨q0⟩
      obtain ⟨q, hq⟩ := choose_lt each
      refine ⟨(List.range len).map (fun i => (q i).1), ⟨some a, cap, by simp, by simpa using hl, by simp, ?_, fun _ => ⟨a, rfl, fun j p hj => ?_⟩⟩, fun v hv => ?_⟩
      · have : maxLen ≤ 9223372036854775807 := by decide
        simp; omega
      · have hjl : j < len := by
          have := (List.getElem?_eq_some_iff.1 hj).1
          simpa using this
        have hp : (q j).1 = p := by simpa [hjl] using hj
        obtain ⟨h1, h2, h3⟩ := hq j hjl
        subst hp
        refine ⟨(q j).2, d.K_len h2, h2, fun i u hu => ?_⟩
        have hil : i < d.sz := by
          have := (List.getElem?_eq_some_iff.1 hu).1
          rwa [d.K_len h2] at this
        have h4 := (World.cells?_some h1).2.2 i hil
        rw [add_add_, ← hu]
        exact h4
      · obtain ⟨i, hi, rfl⟩ := List.mem_map.1 hv
        exact (hq i (List.mem_range.1 hi)).2.2

theorem opens_struct3 {α β γ : Type} {P : Program} {t : TypeId} {f0 f1 f2 : Field} {a : Kd α} {b : Kd β} {c : Kd γ} {ok0 : α → Prop} {ok1 : β → Prop} {ok2 : γ → Prop}
    (ht : P.underlying t = some (.struct #[f0, f1, f2])) (hc : P.cellsOf t = a.sz + (b.sz + c.sz)) (c0 : P.cellsOf f0.type = a.sz) (c1 : P.cellsOf f1.type = b.sz) (c2 : P.cellsOf f2.type = c.sz)
    (o0 : f0.offset = 0) (o1 : f1.offset = a.sz) (o2 : f2.offset = a.sz + b.sz) (h0 : Opens P f0.type a ok0) (h1 : Opens P f1.type b ok1) (h2 : Opens P f2.type c ok2) :
    Opens P t (Kd.pair a (Kd.pair b c)) (fun v => ok0 v.1 ∧ ok1 v.2.1 ∧ ok2 v.2.2) := by
  intro H enc w base spare held fuel cs x hx
  obtain ⟨y0, y1, y2, n, _, hl, e0, e1, e2⟩ := trod_struct3 ht hx
  rw [c0, o0, List.drop_zero] at e0
  rw [c1, o1] at e1
  rw [c2, o2] at e2
  obtain ⟨v0, k0, q0⟩ := h0 _ _ _ _ _ _ _ _ _ e0
  obtain ⟨v1, k1, q1⟩ := h1 _ _ _ _ _ _ _ _ _ e1
  obtain ⟨v2, k2, q2⟩ := h2 _ _ _ _ _ _ _ _ _ e2
  refine ⟨(v0, v1, v2), ⟨cs.take a.sz, cs.drop a.sz, (List.take_append_drop _ _).symm, k0, (cs.drop a.sz).take b.sz, (cs.drop (a.sz + b.sz)).take c.sz, ?_, k1, k2⟩, q0, q1, q2⟩
  have e : (cs.drop (a.sz + b.sz)).take c.sz = (cs.drop a.sz).drop b.sz := by
    rw [List.drop_drop]
    apply List.take_of_length_le
    rw [List.length_drop, hl, hc]
    omega
  rw [e, List.take_append_drop]

/-- A slice argument: its row, and how long its weight lets it be. -/
theorem slice_arg {α : Type} {P : Program} {t e : TypeId} {d : Kd α} {ok : α → Prop} (ht : P.underlying t = some (.slice e)) (hc : P.cellsOf e = d.sz) (h : Opens P e d ok)
    {H : Type} {enc : TypeId × Value → H} {W : World} {base : Nat} {spare : Nat → Bool} {held : Bool} {a : Option Addr} {len cap : Nat} {x : DataW H} {ps : List MemPlace}
    (hT : DataW.Trod enc P W base spare held t (.slice a len cap) x ps) : ∃ l, d.C W a len l ∧ (∀ v ∈ l, ok v) ∧ len ≤ cap := by
  obtain ⟨fuel, hf⟩ := hT
  obtain ⟨l, ⟨A, c, he, hle, hC⟩, hok⟩ := opens_slice ht hc h _ _ _ _ _ _ _ _ _ hf
  simp [Value.cells] at he
  obtain ⟨rfl, rfl, rfl⟩ := he
  exact ⟨l, hC, hok, hle⟩
theorem sized_arg {H : Type} {enc : TypeId × Value → H} {P : Program} {W : World} {base : Nat} {spare : Nat → Bool} {held : Bool} {t e : TypeId} {a : Option Addr} {len cap : Nat} {d : DataW H} {ps : List MemPlace} {ts : List TypeId} {ds : List (DataW H)} {j : Nat}
    (hsz : (DataW.weightsEach P ts ds).all (· ≤ reachBytes) = true) (ht : ts[j]? = some t) (hd : ds[j]? = some d) (hu : P.underlying t = some (.slice e)) {B : Nat} (hB : P.bytesOf e = B)
    (h : DataW.Trod enc P W base spare held t (.slice a len cap) d ps) : len * B ≤ 140737488351232 := by
  obtain ⟨fuel, hf⟩ := h
  rcases open_slice hu hf with ⟨hcs, _⟩ | ⟨x, l, c, m, n, D, Pl, hcs, _, hl, hm, hmm, hx, _⟩
  · simp [Value.cells] at hcs
    obtain ⟨rfl, rfl, rfl⟩ := hcs
    simp
  · simp [Value.cells] at hcs
    obtain ⟨rfl, rfl, rfl⟩ := hcs
    obtain ⟨hx, _⟩ := Prod.mk.inj hx
    subst hx
    have z := sized_slice hsz ht hd hu
    rw [hB] at z
    refine Nat.le_trans (Nat.mul_le_mul_right _ ?_) z
    simp

end Go.Proofs.Ytjiligngjlejmaa.Opn
