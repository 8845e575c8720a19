/- Plain words: what reads as data of a struct of five fields reads by a kind of the print's words. -/
import Derived.Test.YtnejnnfjbhpigaaDoorOpen
import Derived.Lib.SmallJoins
namespace Go.Proofs.YtnejnnfjbhpigaaDoor.Opn
open Go.RowKit Go.Deep Go.Proofs.YtnejnnfjbhpigaaDoorW.PrintWords
theorem opens_struct5 {α β γ δ ε : Type} {P : Program} {t : TypeId} {f0 f1 f2 f3 f4 : Field} {a : Kd α} {b : Kd β} {c : Kd γ} {d : Kd δ} {g : Kd ε} {ok0 : α → Prop} {ok1 : β → Prop} {ok2 : γ → Prop} {ok3 : δ → Prop} {ok4 : ε → Prop}
    (ht : P.underlying t = some (.struct #[f0, f1, f2, f3, f4])) (hc : P.cellsOf t = a.sz + (b.sz + (c.sz + (d.sz + g.sz)))) (c0 : P.cellsOf f0.type = a.sz) (c1 : P.cellsOf f1.type = b.sz) (c2 : P.cellsOf f2.type = c.sz) (c3 : P.cellsOf f3.type = d.sz) (c4 : P.cellsOf f4.type = g.sz)
    (o0 : f0.offset = 0) (o1 : f1.offset = a.sz) (o2 : f2.offset = a.sz + b.sz) (o3 : f3.offset = a.sz + (b.sz + c.sz)) (o4 : f4.offset = a.sz + (b.sz + (c.sz + d.sz)))
    (h0 : Opens P f0.type a ok0) (h1 : Opens P f1.type b ok1) (h2 : Opens P f2.type c ok2) (h3 : Opens P f3.type d ok3) (h4 : Opens P f4.type g ok4) :
    Opens P t (Kd.pair a (Kd.pair b (Kd.pair c (Kd.pair d g)))) (fun v => ok0 v.1 ∧ ok1 v.2.1 ∧ ok2 v.2.2.1 ∧ ok3 v.2.2.2.1 ∧ ok4 v.2.2.2.2) := by
  intro H enc w base spare held fuel cs x hx
  obtain ⟨xs, n, _, rfl, hl, hlen, hf⟩ := DataW.trod_struct ht hx
  obtain ⟨y0, y1, y2, y3, y4, rfl⟩ : ∃ y0 y1 y2 y3 y4, xs = [y0, y1, y2, y3, y4] := by
    match xs, hlen with
    | [y0, y1, y2, y3, y4], _ => exact ⟨_, _, _, _, _, rfl⟩
  have e0 := by simpa using hf 0 f0 rfl
  have e1 := by simpa using hf 1 f1 rfl
  have e2 := by simpa using hf 2 f2 rfl
  have e3 := by simpa using hf 3 f3 rfl
  have e4 := by simpa using hf 4 f4 rfl
  rw [c0, o0, List.drop_zero] at e0
  rw [c1, o1] at e1
  rw [c2, o2] at e2
  rw [c3, o3] at e3
  rw [c4, o4] at e4
  obtain ⟨v0, k0, q0⟩ := h0 _ _ _ _ _ _ _ _ _ e0
  obtain ⟨v1, k1, q1⟩ := h1 _ _ _ _ _ _ _ _ _ e1
  obtain ⟨v2, k2, q2⟩ := h2 _ _ _ _ _ _ _ _ _ e2
  obtain ⟨v3, k3, q3⟩ := h3 _ _ _ _ _ _ _ _ _ e3
  obtain ⟨v4, k4, q4⟩ := h4 _ _ _ _ _ _ _ _ _ e4
  refine ⟨(v0, v1, v2, v3, v4), ⟨cs.take a.sz, cs.drop a.sz, (List.take_append_drop _ _).symm, k0, (cs.drop a.sz).take b.sz, cs.drop (a.sz + b.sz), ?_, k1, (cs.drop (a.sz + b.sz)).take c.sz, cs.drop (a.sz + (b.sz + c.sz)), ?_, k2, (cs.drop (a.sz + (b.sz + c.sz))).take d.sz, (cs.drop (a.sz + (b.sz + (c.sz + d.sz)))).take g.sz, ?_, k3, k4⟩, q0, q1, q2, q3, q4⟩
  · have e : cs.drop (a.sz + b.sz) = (cs.drop a.sz).drop b.sz := by rw [List.drop_drop]
    rw [e, List.take_append_drop]
  · have e : cs.drop (a.sz + (b.sz + c.sz)) = (cs.drop (a.sz + b.sz)).drop c.sz := by rw [List.drop_drop, Nat.add_assoc]
    rw [e, List.take_append_drop]
  · have e : (cs.drop (a.sz + (b.sz + (c.sz + d.sz)))).take g.sz = (cs.drop (a.sz + (b.sz + c.sz))).drop d.sz := by
      rw [List.drop_drop, show a.sz + (b.sz + c.sz) + d.sz = a.sz + (b.sz + (c.sz + d.sz)) by omega]
      apply List.take_of_length_le
      rw [List.length_drop, hl, hc]
      omega
    rw [e, List.take_append_drop]
end Go.Proofs.YtnejnnfjbhpigaaDoor.Opn
