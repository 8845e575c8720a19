/- The law HarqMends' plain part: of versions of which few bits are turned the message is read. Each theorem says its own conditions. -/
import Derived.Test.YtnejnnfjbhpigaaDoorDc
import Derived.Test.YtnejnnfjbhpigaaDoorWu
namespace Go.Proofs.YtnejnnfjbhpigaaDoor.Vit
open Go.RowKit Go.Proofs.YtnejnnfjbhpigaaDoorW.PrintWords Go.Proofs.YtnejnnfjbhpigaaDoorW.PrintLast Go.Proofs.YtnejnnfjbhpigaaDoorW.PrintMore Go.Proofs.YtnejnnfjbhpigaaDoor.Mem Go.Proofs.YtnejnnfjbhpigaaDoor.Crc
attribute [local go_sem] max2_int min2_int max_two min_two max_three min_three max_four min_four   -- for this text's walks alone
set_option linter.unusedVariables false
set_option linter.unusedSimpArgs false

open Go.Proofs.YtnejnnfjbhpigaaDoor.Chk
theorem cnt_few (v : Nat) : ∀ rs : List (Nat × List Nat), cnt v rs ≤ rs.length
  | [] => Nat.le_refl _
  | (u, p) :: rs => by
    have := cnt_few v rs
    simp only [cnt, List.length_cons]
    split <;> omega
/-- What is known of the versions that came. -/
structure RsOk (L i : Nat) (rs : List (Nat × List Nat)) : Prop where
  num : rs.length = i
  ver : ∀ q ∈ rs, q.1 < 4
  bits : ∀ q ∈ rs, Bits q.2
  len : ∀ q ∈ rs, q.2.length = L
theorem RsOk.nil (L : Nat) : RsOk L 0 [] := ⟨rfl, fun q hq => absurd hq List.not_mem_nil, fun q hq => absurd hq List.not_mem_nil, fun q hq => absurd hq List.not_mem_nil⟩
theorem RsOk.next {L i : Nat} {rs : List (Nat × List Nat)} (h : RsOk L i rs) {v : Nat} (hv : v < 4) {p : List Nat} (hp : Bits p) (hl : p.length = L) : RsOk L (i + 1) ((v, p) :: rs) where
  num := by rw [List.length_cons, h.num]
  ver := fun q hq => (List.mem_cons.1 hq).elim (fun e => by rw [e]; exact hv) (h.ver q)
  bits := fun q hq => (List.mem_cons.1 hq).elim (fun e => by rw [e]; exact hp) (h.bits q)
  len := fun q hq => (List.mem_cons.1 hq).elim (fun e => by rw [e]; exact hl) (h.len q)
theorem hRes_mends {m : List Nat} (hm : ∀ x ∈ m, x < 256) {n L i best v : Nat} (hn : m.length = n) (h64 : n ≤ 64) (hL : 8 * (n + 4) + 6 = L) {rs : List (Nat × List Nat)} (hr : RsOk L i rs) (hi : i ≤ 7) {at_ : Nat → Nat → Nat} (hP : Pot (fun v => cnt v rs) best at_) (ht : 2 * turned (code (msgB m)) L rs < best) (p : List Nat) :
    hRes (8 * (n + 4)) v p (softs L rs) = some m := by
  have h7 : ∀ v, cnt v rs ≤ 7 := fun v => by
    have := cnt_few v rs
    have := hr.num
    omega
  have hl : rs.length ≤ 30 := by have := hr.num; omega
  subst hL
  have htold := mends_told (m := msgB m) (n := 8 * (n + 4)) (by rw [msgB_len, hn]) (msgB_bits m) (by omega) rs hr.ver hr.bits hr.len hl h7 hP ht
  have hd := decOf_h (M := 8 * (n + 4)) (softs_len _ rs) (by omega) (softs_in _ rs hl hr.ver)
  have he : hDec (8 * (n + 4)) (softs (8 * (n + 4) + 6) rs) = msgB m := ints_inj (hd.1.symm.trans htold.1)
  exact hRes_dec (by rw [he, open_msg hm])
theorem Proc.put {base : Nat} {W : World} {pb b sb N : Nat} {xs : List Int} {cs : Nat → Nat} {came : Nat} {done : Bool} (h : Proc base W pb b sb N xs cs came done) {g : Nat} {r : Array Value} (hb : W.heap[g]? = some (.cells r 37 (0, 0))) (hg : base ≤ g) (v : Nat) (x : Value) : Proc base (W.setCell ⟨g, v, none⟩ x) pb b sb N xs cs came done := by
  have h1 : g ≠ pb := blk_ne hb h.is.blk (by decide)
  have h2 : g ≠ b := blk_ne hb h.is.buf.blk (by decide)
  have h3 : g ≠ sb := blk_ne hb h.is.buf.row (by decide)
  have h4 := h.pos
  exact ⟨h.is.chg (chg_put W g v x) (fun e => h1 e.symm) (fun e => h2 e.symm) (fun e => h3 e.symm), h.in_, h.lo, h.taps.chg (chg_put W g v x) (by show ¬ 0 = g; omega), h.pos⟩
theorem box_off {W w' : World} {pb b sb N : Nat} {xs : List Int} {cs : Nat → Nat} {came : Nat} {done : Bool} (hI : IsP W pb b sb N xs cs came done) (hC : Chg (PS3 pb b sb) W w') {g : Nat} {r : Array Value} (hb : W.heap[g]? = some (.cells r 37 (0, 0))) : w'.heap[g]? = some (.cells r 37 (0, 0)) := by
  have h1 : g ≠ pb := blk_ne hb hI.blk (by decide)
  have h2 : g ≠ b := blk_ne hb hI.buf.blk (by decide)
  have h3 : g ≠ sb := blk_ne hb hI.buf.row (by decide)
  exact hC.keeps hb (fun h => h.elim h1 (fun h => h.elim h2 h3))
theorem offX_same {n came : Nat} (h : came < 16) (xs : List Int) : offX n n came xs = xs := by unfold offX; rw [if_pos ⟨rfl, h⟩]
theorem offS_same {n came : Nat} (h : came < 16) (cs : Nat → Nat) : offS n n came cs = cs := by unfold offS; rw [if_pos ⟨rfl, h⟩]
theorem offN_same {n came : Nat} (h : came < 16) : offN n n came = came := by unfold offN; rw [if_pos ⟨rfl, h⟩]
end Go.Proofs.YtnejnnfjbhpigaaDoor.Vit
