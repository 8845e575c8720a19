/- Plain words on memory for this seat's proofs: what has turned between two worlds ('Chg'), over the print's words. -/
import Derived.Test.YtjiligngjlejmaaWWords
import Derived.Test.YtjiligngjlejmaaWQPut
import Derived.Test.YtjiligngjlejmaaWMore
namespace Go.Proofs.Ytjiligngjlejmaa.Mem
open Go.RowKit Go.Proofs.YtjiligngjlejmaaW.PrintWords

/-- Of the blocks that were there only those of S may have turned. -/
structure Chg (S : Nat → Prop) (w w' : World) : Prop where
  os : w'.os = w.os
  tape : w'.tape = w.tape
  output : w'.output = w.output
  size : w.heap.size ≤ w'.heap.size
  block : ∀ k, k < w.heap.size → ¬ S k → w'.heap[k]? = w.heap[k]?

theorem Chg.refl (S : Nat → Prop) (w : World) : Chg S w w := ⟨rfl, rfl, rfl, Nat.le_refl _, fun _ _ _ => rfl⟩
theorem Chg.trans {S T : Nat → Prop} {a b c : World} (h : Chg S a b) (k : Chg T b c) (hT : ∀ i, i < a.heap.size → T i → S i) : Chg S a c :=
  ⟨k.os.trans h.os, k.tape.trans h.tape, k.output.trans h.output, Nat.le_trans h.size k.size, fun i hi hS => (k.block i (Nat.lt_of_lt_of_le hi h.size) (fun hT' => hS (hT i hi hT'))).trans (h.block i hi hS)⟩
theorem Chg.mono {S T : Nat → Prop} {w w' : World} (h : Chg S w w') (hT : ∀ i, S i → T i) : Chg T w w' := ⟨h.os, h.tape, h.output, h.size, fun i hi hn => h.block i hi (fun hs => hn (hT i hs))⟩
theorem Chg.of_below {w w' : World} (h : Below w.heap.size w w') (S : Nat → Prop) : Chg S w w' := ⟨h.os, h.tape, h.output, h.size, fun i hi _ => h.block i hi⟩
theorem Chg.of_grown {w w' : World} {row : Option Nat} (h : w.grownBy w' row) : Chg (fun k => some k = row) w w' := ⟨h.os, h.tape, h.output, h.size, fun i hi hn => h.block i hi hn⟩
theorem Chg.below {S : Nat → Prop} {w w' : World} {B : Nat} (h : Chg S w w') (hB : B ≤ w.heap.size) (hS : ∀ i, S i → B ≤ i) : Below B w w' :=
  ⟨h.os, h.tape, h.output, h.size, fun i hi => h.block i (Nat.lt_of_lt_of_le hi hB) (fun hs => by have := hS i hs; omega)⟩
theorem Chg.alloc {S : Nat → Prop} {a w : World} (h : Chg S a w) (o : Obj) : Chg S a (w.alloc o) :=
  h.trans (Chg.of_below (below_alloc (Below.refl _ _) o) (fun _ => False)) (fun _ _ hf => hf.elim)
theorem Chg.drew {S : Nat → Prop} {a w : World} (h : Chg S a w) : Chg S a w.drew := ⟨h.os, h.tape, h.output, h.size, h.block⟩
theorem Chg.drewN {S : Nat → Prop} {a w : World} (h : Chg S a w) (n : Nat) : Chg S a (w.drewN n) :=
  h.trans (Chg.of_below (pw_below_drewN (Below.refl _ _) n) (fun _ => False)) (fun _ _ hf => hf.elim)
theorem Chg.set_ {S : Nat → Prop} {a w : World} (h : Chg S a w) {p : Addr} (hp : p.block < a.heap.size → S p.block) (u : Value) : Chg S a (w.setCell p u) :=
  ⟨h.os, h.tape, h.output, by simpa [World.setCell] using h.size, fun i hi hn => (Below.heap_setCell w p u i (fun e => hn (by subst e; exact hp hi))).trans (h.block i hi hn)⟩
theorem Chg.keeps {S : Nat → Prop} {w w' : World} (h : Chg S w w') {k : Nat} {o : Obj} (hb : w.heap[k]? = some o) (hn : ¬ S k) : w'.heap[k]? = some o := (h.block k (blk_lt hb) hn).trans hb
theorem Chg.cell {S : Nat → Prop} {w w' : World} (h : Chg S w w') {p : Addr} (hp : p.block < w.heap.size) (hn : ¬ S p.block) : w'.cell? p = w.cell? p := World.cell?_of_block (w := w) (h.block p.block hp hn)

/-- A row, and what lies in it, is none of another row's block. -/
theorem Q_apart_row {α : Type} {d : Kd α} {e e' : Nat} {w : World} {base : Nat} {ok : Nat → Prop} {v u : Value} {xs : List α} (h : d.Q e w base ok v xs) (hne : NeRow v u)
    (hu : ∀ k, u.ownBlock = some k → ∃ cells, w.heap[k]? = some (.cells cells e' (0, 0))) (ht : ∀ q, q ∈ d.E → q ≠ e') : d.Q e w base (fun k => ok k ∧ some k ≠ u.ownBlock) v xs := by
  obtain ⟨h0, inner, ho, hr⟩ := h
  refine ⟨fun k hk => ⟨h0 k hk, fun he => hne k hk he.symm⟩, inner, ho, hr.imp_ (fun _ _ hp => d.M_mono (fun k hk => ⟨⟨hk.1.1, ?_⟩, hk.1.2⟩) (d.M_bound hp))⟩
  intro he
  obtain ⟨_, _, _, q, hq, cells, hc⟩ := hk
  obtain ⟨cells', hc'⟩ := hu k he.symm
  rw [hc] at hc'
  injection hc' with hc'
  injection hc' with _ hc'
  exact ht q hq hc'
theorem Q_typed {α : Type} {d : Kd α} {e : Nat} {w : World} {base : Nat} {ok : Nat → Prop} {v : Value} {xs : List α} (h : d.Q e w base ok v xs) : ∀ k, v.ownBlock = some k → ∃ cells, w.heap[k]? = some (.cells cells e (0, 0)) := by
  obtain ⟨_, inner, ho, _⟩ := h
  exact fun k hk => (q_typed ho k hk).2

section
variable {P : Program} {ops : Array Oper} {o : Oper} {a : Act} {K : Act → World → Prop} {Q' : Exit → Act → World → Prop} {E : Prop} {α : Type} {w : World}
/-- append of one element onto a row that may begin inside its block, at a step of a region that draws. -/
theorem step_append_Q (d : Kd α) (hgd : o.guard = none) (s x : Operand) (t : TypeId)
    (ho : o.op = .call { callee := .builtin .append, args := #[s, x], argTypes := #[t, t] }) (base : Nat) (e : TypeId) (z : Value) (bytes : Nat)
    (ht : P.underlying t = some (.slice e)) (hinfo : (P.info? e).map (fun i => (i.zero, i.size, i.bytes)) = some (some z, d.sz, bytes)) (hz : z.cells.size = d.sz) (hs0 : 0 < d.sz) (hb0 : 0 < bytes)
    (v : Value) (xs : List α) (p : α) (cs : List Value) (ok okp : Nat → Prop) (hs : a.eval s = v) (HO : d.Q e w base ok v xs)
    (ad : Addr) (c : Nat) (hx : a.eval x = .slice (some ad) 1 c) (hnews : ∀ j u, cs[j]? = some u → w.cell? (ad.add j) = some u)
    (hp : d.M w base okp p cs) (hokp : ∀ k, okp k → ok k ∧ some k ≠ v.ownBlock) (hfresh : ∀ k, w.heap.size ≤ k → ok k) (hbase : base ≤ w.heap.size) (hl : (xs.length + 1) * bytes ≤ 140737488355328)
    (h : ∀ g off cap w1, d.Q e w1 base ok (.slice (some ⟨g, off, none⟩) (xs.length + 1) cap) (xs ++ [p]) → w.grownBy w1 v.ownBlock → (v.ownBlock = some g ∨ w.heap.size ≤ g) → g < w1.heap.size →
      K (a.put o.dst (.slice (some ⟨g, off, none⟩) (xs.length + 1) cap)) w1) :
    if Region.wanted o (yielded ops a.tmps) = true then Oper.wp P o a w K Q' else E := by
  have hw : Region.wanted o (yielded ops a.tmps) = true := by simp [Region.wanted, hgd]
  rw [if_pos hw]
  obtain ⟨h0, inner, hown, hr⟩ := HO
  obtain ⟨i0, hi, hzz⟩ := Option.map_eq_some_iff.1 hinfo
  simp only [Prod.mk.injEq] at hzz
  obtain ⟨hz0, hz1, hz2⟩ := hzz
  have hlen : xs.length + 1 ≤ 140737488355328 := Nat.le_trans (Nat.le_mul_of_pos_right _ hb0) hl
  have hcl := d.K_len (d.K_of_M hp)
  obtain ⟨v1, w1, hrun, hq1, hg1, hat⟩ := q_append (P := P) w base t o.type e i0 z d.sz bytes ht hi hz0 hz1 hz2 hz hs0 v xs.length inner hown ad 1 c cs (by rw [hcl, Nat.one_mul])
    hnews (d.K_one (d.K_of_M hp)) (by omega) (by simp only [maxLen]; omega) hl hbase
  have hQ := Kd.Q_appended h0 hr hp hokp hfresh hq1 hg1 hat
  obtain ⟨g, off, cap, he, _, hlt, _⟩ := Kd.Q_form hQ (by simp)
  have he' : v1 = .slice (some ⟨g, off, none⟩) (xs.length + 1) cap := by rw [he]; simp
  subst he'
  unfold Oper.wp execOp
  simp only [ho, resolve, invoke, builtin, Sem.run_bind, Sem.run_pure, Result.andThen_ok, List.map_toArray, List.map_cons, List.map_nil, hs, hx, hrun]
  refine h g off cap w1 hQ hg1 ?_ hlt
  rcases hat with hat | ⟨b, hb, hle⟩
  · exact .inl (by rw [← hat]; rfl)
  · right
    have : g = b := by simpa [Value.ownBlock] using hb
    omega
end

end Go.Proofs.Ytjiligngjlejmaa.Mem
