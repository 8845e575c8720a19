/- Plain words: what reads as data of a struct of four fields reads by a kind of the print's words. -/
import Derived.Test.YticiilolmkbncaaDoorOpen
import Derived.Lib.SmallJoins
namespace Go.Proofs.YticiilolmkbncaaDoor.Opn
open Go.RowKit Go.Deep Go.Proofs.YticiilolmkbncaaDoorW.PrintWords
theorem opens_struct4 {α β γ δ : Type} {P : Program} {t : TypeId} {f0 f1 f2 f3 : Field} {a : Kd α} {b : Kd β} {c : Kd γ} {d : Kd δ} {ok0 : α → Prop} {ok1 : β → Prop} {ok2 : γ → Prop} {ok3 : δ → Prop}
    (ht : P.underlying t = some (.struct #[f0, f1, f2, f3])) (hc : P.cellsOf t = a.sz + (b.sz + (c.sz + d.sz))) (c0 : P.cellsOf f0.type = a.sz) (c1 : P.cellsOf f1.type = b.sz) (c2 : P.cellsOf f2.type = c.sz) (c3 : P.cellsOf f3.type = d.sz)
    (o0 : f0.offset = 0) (o1 : f1.offset = a.sz) (o2 : f2.offset = a.sz + b.sz) (o3 : f3.offset = a.sz + (b.sz + c.sz)) (h0 : Opens P f0.type a ok0) (h1 : Opens P f1.type b ok1) (h2 : Opens P f2.type c ok2) (h3 : Opens P f3.type d ok3) :
    Opens P t (Kd.pair a (Kd.pair b (Kd.pair c d))) (fun v => ok0 v.1 ∧ ok1 v.2.1 ∧ ok2 v.2.2.1 ∧ ok3 v.2.2.2) := by
  intro H enc w base spare held fuel cs x hx
  obtain ⟨y0, y1, y2, y3, n, _, hl, e0, e1, e2, e3⟩ := Go.Joins.trod_struct4 ht hx
  rw [c0, o0, List.drop_zero] at e0
  rw [c1, o1] at e1
  rw [c2, o2] at e2
  rw [c3, o3] at e3
  obtain ⟨v0, k0, q0⟩ := h0 _ _ _ _ _ _ _ _ _ e0
  obtain ⟨v1, k1, q1⟩ := h1 _ _ _ _ _ _ _ _ _ e1
  obtain ⟨v2, k2, q2⟩ := h2 _ _ _ _ _ _ _ _ _ e2
  obtain ⟨v3, k3, q3⟩ := h3 _ _ _ _ _ _ _ _ _ e3
  refine ⟨(v0, v1, v2, v3), ⟨cs.take a.sz, cs.drop a.sz, (List.take_append_drop _ _).symm, k0, (cs.drop a.sz).take b.sz, (cs.drop (a.sz + b.sz)), ?_, k1, (cs.drop (a.sz + b.sz)).take c.sz, (cs.drop (a.sz + (b.sz + c.sz))).take d.sz, ?_, k2, k3⟩, q0, q1, q2, q3⟩
  · have e : cs.drop (a.sz + b.sz) = (cs.drop a.sz).drop b.sz := by rw [List.drop_drop]
    rw [e, List.take_append_drop]
  · have e : (cs.drop (a.sz + (b.sz + c.sz))).take d.sz = (cs.drop (a.sz + b.sz)).drop c.sz := by
      rw [List.drop_drop, Nat.add_assoc]
      apply List.take_of_length_le
      rw [List.length_drop, hl, hc]
      omega
    rw [e, List.take_append_drop]
end Go.Proofs.YticiilolmkbncaaDoor.Opn
