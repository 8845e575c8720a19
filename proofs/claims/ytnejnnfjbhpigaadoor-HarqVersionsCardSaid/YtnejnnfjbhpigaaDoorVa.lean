/- Contracts of the coder (conv) and the trellis: each theorem says its own conditions. -/
import Derived.Test.YtnejnnfjbhpigaaDoorMem
import Derived.Test.YtnejnnfjbhpigaaDoorProg
import Derived.Below
import Derived.Deep.Draws
import Derived.Deep.AppendLies
import Derived.Maps.AppendAt
import Derived.OwnWalk
import Derived.Laws.BytesArg
import Derived.Laws.MakeOwn
import Derived.Laws.OwnMore
import Derived.Deep.OwnRows
import Derived.Tactics
import Derived.Lib.ConvBytes
import Derived.Laws.Slices
import Derived.WalkKit
import Derived.KernelRfl
import Derived.RowKit3
import Derived.Deep.LoopGhost
import Derived.Deep.QuietTactic
import Derived.BigQuiet
import Derived.WideLaws
import Derived.Deep.DeepCutAuto
import Derived.Deep.CutBlock
import Derived.Deep.RegionHeld3
import Derived.Laws.Rows
import Derived.Lib.AppendStr
import Derived.ArgAppend
import Derived.Laws.IdiomCopy
import Derived.OrdersHeld
import Derived.Laws.BitsLemmas
import Derived.RowKit
import Derived.WalkSpells
namespace Go.Proofs.YtnejnnfjbhpigaaDoor.Vit
open Go.RowKit Go.Proofs.YtnejnnfjbhpigaaDoorW.PrintWords Go.Proofs.YtnejnnfjbhpigaaDoorW.PrintLast Go.Proofs.YtnejnnfjbhpigaaDoorW.PrintMore Go.Proofs.YtnejnnfjbhpigaaDoor.Mem
attribute [local go_sem] max2_int min2_int max_two min_two max_three min_three max_four min_four   -- for this text's walks alone
set_option linter.unusedVariables false
set_option linter.unusedSimpArgs false

/-! ### Bits -/
/-- How many bits of seven are set. -/
def pc (y : Nat) : Nat := y % 2 + y / 2 % 2 + y / 4 % 2 + y / 8 % 2 + y / 16 % 2 + y / 32 % 2 + y / 64 % 2
def onesE (a0 : Int) : Int := Go.bits .and .i64 (wrap64 (IntKind.u64.wrap ((IntKind.u64.wrap ((IntKind.u64.wrap ((Go.bits .and .u64 (IntKind.u64.wrap (((IntKind.u64.wrap ((Go.bits .and .u64 ((IntKind.u64.wrap ((Go.bits .and .u64 (a0 / 2) 6148914691236517205) + (Go.bits .and .u64 a0 6148914691236517205))) / 4) 3689348814741910323) + (Go.bits .and .u64 (IntKind.u64.wrap ((Go.bits .and .u64 (a0 / 2) 6148914691236517205) + (Go.bits .and .u64 a0 6148914691236517205))) 3689348814741910323))) / 16) + (IntKind.u64.wrap ((Go.bits .and .u64 ((IntKind.u64.wrap ((Go.bits .and .u64 (a0 / 2) 6148914691236517205) + (Go.bits .and .u64 a0 6148914691236517205))) / 4) 3689348814741910323) + (Go.bits .and .u64 (IntKind.u64.wrap ((Go.bits .and .u64 (a0 / 2) 6148914691236517205) + (Go.bits .and .u64 a0 6148914691236517205))) 3689348814741910323))))) 1085102592571150095) + ((Go.bits .and .u64 (IntKind.u64.wrap (((IntKind.u64.wrap ((Go.bits .and .u64 ((IntKind.u64.wrap ((Go.bits .and .u64 (a0 / 2) 6148914691236517205) + (Go.bits .and .u64 a0 6148914691236517205))) / 4) 3689348814741910323) + (Go.bits .and .u64 (IntKind.u64.wrap ((Go.bits .and .u64 (a0 / 2) 6148914691236517205) + (Go.bits .and .u64 a0 6148914691236517205))) 3689348814741910323))) / 16) + (IntKind.u64.wrap ((Go.bits .and .u64 ((IntKind.u64.wrap ((Go.bits .and .u64 (a0 / 2) 6148914691236517205) + (Go.bits .and .u64 a0 6148914691236517205))) / 4) 3689348814741910323) + (Go.bits .and .u64 (IntKind.u64.wrap ((Go.bits .and .u64 (a0 / 2) 6148914691236517205) + (Go.bits .and .u64 a0 6148914691236517205))) 3689348814741910323))))) 1085102592571150095) / 256))) + ((IntKind.u64.wrap ((Go.bits .and .u64 (IntKind.u64.wrap (((IntKind.u64.wrap ((Go.bits .and .u64 ((IntKind.u64.wrap ((Go.bits .and .u64 (a0 / 2) 6148914691236517205) + (Go.bits .and .u64 a0 6148914691236517205))) / 4) 3689348814741910323) + (Go.bits .and .u64 (IntKind.u64.wrap ((Go.bits .and .u64 (a0 / 2) 6148914691236517205) + (Go.bits .and .u64 a0 6148914691236517205))) 3689348814741910323))) / 16) + (IntKind.u64.wrap ((Go.bits .and .u64 ((IntKind.u64.wrap ((Go.bits .and .u64 (a0 / 2) 6148914691236517205) + (Go.bits .and .u64 a0 6148914691236517205))) / 4) 3689348814741910323) + (Go.bits .and .u64 (IntKind.u64.wrap ((Go.bits .and .u64 (a0 / 2) 6148914691236517205) + (Go.bits .and .u64 a0 6148914691236517205))) 3689348814741910323))))) 1085102592571150095) + ((Go.bits .and .u64 (IntKind.u64.wrap (((IntKind.u64.wrap ((Go.bits .and .u64 ((IntKind.u64.wrap ((Go.bits .and .u64 (a0 / 2) 6148914691236517205) + (Go.bits .and .u64 a0 6148914691236517205))) / 4) 3689348814741910323) + (Go.bits .and .u64 (IntKind.u64.wrap ((Go.bits .and .u64 (a0 / 2) 6148914691236517205) + (Go.bits .and .u64 a0 6148914691236517205))) 3689348814741910323))) / 16) + (IntKind.u64.wrap ((Go.bits .and .u64 ((IntKind.u64.wrap ((Go.bits .and .u64 (a0 / 2) 6148914691236517205) + (Go.bits .and .u64 a0 6148914691236517205))) / 4) 3689348814741910323) + (Go.bits .and .u64 (IntKind.u64.wrap ((Go.bits .and .u64 (a0 / 2) 6148914691236517205) + (Go.bits .and .u64 a0 6148914691236517205))) 3689348814741910323))))) 1085102592571150095) / 256))) / 65536))) + ((IntKind.u64.wrap ((IntKind.u64.wrap ((Go.bits .and .u64 (IntKind.u64.wrap (((IntKind.u64.wrap ((Go.bits .and .u64 ((IntKind.u64.wrap ((Go.bits .and .u64 (a0 / 2) 6148914691236517205) + (Go.bits .and .u64 a0 6148914691236517205))) / 4) 3689348814741910323) + (Go.bits .and .u64 (IntKind.u64.wrap ((Go.bits .and .u64 (a0 / 2) 6148914691236517205) + (Go.bits .and .u64 a0 6148914691236517205))) 3689348814741910323))) / 16) + (IntKind.u64.wrap ((Go.bits .and .u64 ((IntKind.u64.wrap ((Go.bits .and .u64 (a0 / 2) 6148914691236517205) + (Go.bits .and .u64 a0 6148914691236517205))) / 4) 3689348814741910323) + (Go.bits .and .u64 (IntKind.u64.wrap ((Go.bits .and .u64 (a0 / 2) 6148914691236517205) + (Go.bits .and .u64 a0 6148914691236517205))) 3689348814741910323))))) 1085102592571150095) + ((Go.bits .and .u64 (IntKind.u64.wrap (((IntKind.u64.wrap ((Go.bits .and .u64 ((IntKind.u64.wrap ((Go.bits .and .u64 (a0 / 2) 6148914691236517205) + (Go.bits .and .u64 a0 6148914691236517205))) / 4) 3689348814741910323) + (Go.bits .and .u64 (IntKind.u64.wrap ((Go.bits .and .u64 (a0 / 2) 6148914691236517205) + (Go.bits .and .u64 a0 6148914691236517205))) 3689348814741910323))) / 16) + (IntKind.u64.wrap ((Go.bits .and .u64 ((IntKind.u64.wrap ((Go.bits .and .u64 (a0 / 2) 6148914691236517205) + (Go.bits .and .u64 a0 6148914691236517205))) / 4) 3689348814741910323) + (Go.bits .and .u64 (IntKind.u64.wrap ((Go.bits .and .u64 (a0 / 2) 6148914691236517205) + (Go.bits .and .u64 a0 6148914691236517205))) 3689348814741910323))))) 1085102592571150095) / 256))) + ((IntKind.u64.wrap ((Go.bits .and .u64 (IntKind.u64.wrap (((IntKind.u64.wrap ((Go.bits .and .u64 ((IntKind.u64.wrap ((Go.bits .and .u64 (a0 / 2) 6148914691236517205) + (Go.bits .and .u64 a0 6148914691236517205))) / 4) 3689348814741910323) + (Go.bits .and .u64 (IntKind.u64.wrap ((Go.bits .and .u64 (a0 / 2) 6148914691236517205) + (Go.bits .and .u64 a0 6148914691236517205))) 3689348814741910323))) / 16) + (IntKind.u64.wrap ((Go.bits .and .u64 ((IntKind.u64.wrap ((Go.bits .and .u64 (a0 / 2) 6148914691236517205) + (Go.bits .and .u64 a0 6148914691236517205))) / 4) 3689348814741910323) + (Go.bits .and .u64 (IntKind.u64.wrap ((Go.bits .and .u64 (a0 / 2) 6148914691236517205) + (Go.bits .and .u64 a0 6148914691236517205))) 3689348814741910323))))) 1085102592571150095) + ((Go.bits .and .u64 (IntKind.u64.wrap (((IntKind.u64.wrap ((Go.bits .and .u64 ((IntKind.u64.wrap ((Go.bits .and .u64 (a0 / 2) 6148914691236517205) + (Go.bits .and .u64 a0 6148914691236517205))) / 4) 3689348814741910323) + (Go.bits .and .u64 (IntKind.u64.wrap ((Go.bits .and .u64 (a0 / 2) 6148914691236517205) + (Go.bits .and .u64 a0 6148914691236517205))) 3689348814741910323))) / 16) + (IntKind.u64.wrap ((Go.bits .and .u64 ((IntKind.u64.wrap ((Go.bits .and .u64 (a0 / 2) 6148914691236517205) + (Go.bits .and .u64 a0 6148914691236517205))) / 4) 3689348814741910323) + (Go.bits .and .u64 (IntKind.u64.wrap ((Go.bits .and .u64 (a0 / 2) 6148914691236517205) + (Go.bits .and .u64 a0 6148914691236517205))) 3689348814741910323))))) 1085102592571150095) / 256))) / 65536))) / 4294967296)))) 127
theorem ones_tab : (List.range 128).all (fun y => onesE (y : Int) == (pc y : Int)) = true := by kernel_rfl
theorem onesE_is (y : Nat) (h : y < 128) : onesE (y : Int) = (pc y : Int) := by
  have := List.all_eq_true.1 ones_tab y (List.mem_range.2 h)
  exact eq_of_beq this
set_option maxHeartbeats 8000000 in
set_option maxRecDepth 100000 in
theorem ones64_all (a0 : Int) (w : World) : Calls Tryd.prog 106 #[.int .u64 a0] w fun e w' => e = .returned (.int .i64 (onesE a0)) ∧ w = w' := by
  go_enter Tryd.func106, Tryd.ntmps106
  go_wp2
  go_ret
  exact ⟨rfl, rfl⟩
theorem ones64_any (y : Nat) (h : y < 128) (w : World) : Calls Tryd.prog 106 #[.int .u64 (y : Int)] w fun e w' => e = .returned (.int .i64 (pc y : Int)) ∧ w = w' :=
  onesE_is y h ▸ ones64_all (y : Int) w
theorem ones_any (y : Nat) (h : y < 128) (w : World) : Calls Tryd.prog 102 #[.int .u64 (y : Int)] w fun e w' => e = .returned (.int .i64 (pc y : Int)) ∧ w = w' := by
  go_enter Tryd.func102, Tryd.ntmps102
  go_wp2_with (go_at_call 106; refine (ones64_any y h _).mono ?_; rintro e w' ⟨rfl, rfl⟩)
  go_ret
  exact ⟨rfl, rfl⟩

end Go.Proofs.YtnejnnfjbhpigaaDoor.Vit

namespace Go.Proofs.YtnejnnfjbhpigaaDoor.Vit
open Go.RowKit Go.Proofs.YtnejnnfjbhpigaaDoorW.PrintWords Go.Proofs.YtnejnnfjbhpigaaDoorW.PrintLast Go.Proofs.YtnejnnfjbhpigaaDoorW.PrintMore Go.Proofs.YtnejnnfjbhpigaaDoor.Mem
attribute [local go_sem] max2_int min2_int max_two min_two max_three min_three max_four min_four   -- for this text's walks alone
set_option linter.unusedVariables false
set_option linter.unusedSimpArgs false

/-- What the four streams look at. -/
def tap (j : Nat) : Nat := if j = 0 then 79 else if j = 1 then 87 else if j = 2 then 109 else 121
/-- What stream j tells of seven bits. -/
def ob (x j : Nat) : Nat := pc (x &&& tap j) % 2
/-- The variable holds what the streams look at. -/
def Taps (w : World) : Prop := w.cell? ⟨0, 0, none⟩ = some (.int .u64 79) ∧ w.cell? ⟨0, 1, none⟩ = some (.int .u64 87) ∧ w.cell? ⟨0, 2, none⟩ = some (.int .u64 109) ∧ w.cell? ⟨0, 3, none⟩ = some (.int .u64 121) ∧ 0 < w.heap.size
theorem Taps.below {w w1 : World} (h : Taps w) (hb : Below w.heap.size w w1) : Taps w1 := by
  obtain ⟨h0, h1, h2, h3, h4⟩ := h
  exact ⟨(hb.cell h4).trans h0, (hb.cell h4).trans h1, (hb.cell h4).trans h2, (hb.cell h4).trans h3, Nat.lt_of_lt_of_le h4 hb.size⟩

theorem and_tab : (List.range 128).all (fun x => Go.bits .and .u64 (x : Int) 79 == ((x &&& 79 : Nat) : Int) && Go.bits .and .u64 (x : Int) 87 == ((x &&& 87 : Nat) : Int) && Go.bits .and .u64 (x : Int) 109 == ((x &&& 109 : Nat) : Int) && Go.bits .and .u64 (x : Int) 121 == ((x &&& 121 : Nat) : Int) && decide (x &&& 79 < 128) && decide (x &&& 87 < 128) && decide (x &&& 109 < 128) && decide (x &&& 121 < 128)) = true := by kernel_rfl
theorem par_tab : (List.range 8).all (fun x => Go.bits .and .i64 (x : Int) 1 == ((x % 2 : Nat) : Int)) = true := by kernel_rfl
theorem par_is (x : Nat) (h : x < 8) : Go.bits .and .i64 (x : Int) 1 = ((x % 2 : Nat) : Int) := eq_of_beq (List.all_eq_true.1 par_tab x (List.mem_range.2 h))
theorem pc_lt (y : Nat) : pc y < 8 := by unfold pc; omega

set_option maxHeartbeats 3200000 in
set_option maxRecDepth 100000 in
theorem out_any (x : Nat) (hx : x < 128) (w : World) (ht : Taps w) :
    Calls Tryd.prog 95 #[.int .u64 (x : Int)] w fun e w' => e = .returned (.agg #[.int .u8 (ob x 0 : Nat), .int .u8 (ob x 1 : Nat), .int .u8 (ob x 2 : Nat), .int .u8 (ob x 3 : Nat)]) ∧ Below w.heap.size w w' := by
  have htab := List.all_eq_true.1 and_tab x (List.mem_range.2 hx)
  simp only [Bool.and_eq_true, beq_iff_eq, decide_eq_true_eq] at htab
  obtain ⟨⟨⟨⟨⟨⟨⟨a0, a1⟩, a2⟩, a3⟩, l0⟩, l1⟩, l2⟩, l3⟩ := htab
  obtain ⟨t0, t1, t2, t3, t4⟩ := ht
  have p0 := par_is (pc (x &&& 79)) (pc_lt _)
  have b0 : pc (x &&& 79) % 2 ≤ 1 := by omega
  have e0 : ob x 0 = pc (x &&& 79) % 2 := rfl
  obtain ⟨o0, h0⟩ : ∃ o, pc (x &&& 79) % 2 = o := ⟨_, rfl⟩
  rw [h0] at p0 b0 e0
  obtain ⟨y0, k0⟩ : ∃ y, x &&& 79 = y := ⟨_, rfl⟩
  rw [k0] at a0 l0 p0
  have p1 := par_is (pc (x &&& 87)) (pc_lt _)
  have b1 : pc (x &&& 87) % 2 ≤ 1 := by omega
  have e1 : ob x 1 = pc (x &&& 87) % 2 := rfl
  obtain ⟨o1, h1⟩ : ∃ o, pc (x &&& 87) % 2 = o := ⟨_, rfl⟩
  rw [h1] at p1 b1 e1
  obtain ⟨y1, k1⟩ : ∃ y, x &&& 87 = y := ⟨_, rfl⟩
  rw [k1] at a1 l1 p1
  have p2 := par_is (pc (x &&& 109)) (pc_lt _)
  have b2 : pc (x &&& 109) % 2 ≤ 1 := by omega
  have e2 : ob x 2 = pc (x &&& 109) % 2 := rfl
  obtain ⟨o2, h2⟩ : ∃ o, pc (x &&& 109) % 2 = o := ⟨_, rfl⟩
  rw [h2] at p2 b2 e2
  obtain ⟨y2, k2⟩ : ∃ y, x &&& 109 = y := ⟨_, rfl⟩
  rw [k2] at a2 l2 p2
  have p3 := par_is (pc (x &&& 121)) (pc_lt _)
  have b3 : pc (x &&& 121) % 2 ≤ 1 := by omega
  have e3 : ob x 3 = pc (x &&& 121) % 2 := rfl
  obtain ⟨o3, h3⟩ : ∃ o, pc (x &&& 121) % 2 = o := ⟨_, rfl⟩
  rw [h3] at p3 b3 e3
  obtain ⟨y3, k3⟩ : ∃ y, x &&& 121 = y := ⟨_, rfl⟩
  rw [k3] at a3 l3 p3
  have i0 : ∀ w : World, (Instr.index 152 (.agg #[.int .u64 79, .int .u64 87, .int .u64 109, .int .u64 121]) (.int .i64 0)).run Tryd.prog w = .ok (.int .u64 79) w := fun _ => by kernel_rfl
  have i1 : ∀ w : World, (Instr.index 152 (.agg #[.int .u64 79, .int .u64 87, .int .u64 109, .int .u64 121]) (.int .i64 1)).run Tryd.prog w = .ok (.int .u64 87) w := fun _ => by kernel_rfl
  have i2 : ∀ w : World, (Instr.index 152 (.agg #[.int .u64 79, .int .u64 87, .int .u64 109, .int .u64 121]) (.int .i64 2)).run Tryd.prog w = .ok (.int .u64 109) w := fun _ => by kernel_rfl
  have i3 : ∀ w : World, (Instr.index 152 (.agg #[.int .u64 79, .int .u64 87, .int .u64 109, .int .u64 121]) (.int .i64 3)).run Tryd.prog w = .ok (.int .u64 121) w := fun _ => by kernel_rfl
  rw [e0, e1, e2, e3]
  clear e0 e1 e2 e3 h0 h1 h2 h3 k0 k1 k2 k3
  go_enter Tryd.func95, Tryd.ntmps95
  go_wp2_with fail
  refine wp_loop_rounds 5 ?_
  rw [rounds_succ]
  go_wp2_with fail
  refine (ones_any y0 l0 _).mono ?_
  rintro e w' ⟨rfl, rfl⟩
  go_wp2_with fail
  rw [rounds_succ]
  go_wp2_with fail
  refine (ones_any y1 l1 _).mono ?_
  rintro e w' ⟨rfl, rfl⟩
  go_wp2_with fail
  rw [rounds_succ]
  go_wp2_with fail
  refine (ones_any y2 l2 _).mono ?_
  rintro e w' ⟨rfl, rfl⟩
  go_wp2_with fail
  rw [rounds_succ]
  go_wp2_with fail
  refine (ones_any y3 l3 _).mono ?_
  rintro e w' ⟨rfl, rfl⟩
  go_wp2_with fail
  rw [rounds_succ]
  go_wp2_with fail
  exact bodyPost_ret (v := .agg #[.int .u8 o0, .int .u8 o1, .int .u8 o2, .int .u8 o3]) (by simp [results, Tryd.results95, go_sem]) rfl ⟨rfl, below_alloc (below_alloc (Below.refl _ _) _) _⟩

theorem word_tab : (List.range 64).all (fun s => Go.bits .or .u64 ((0 : Int) * 64) (s : Int) == ((s : Nat) : Int) && Go.bits .or .u64 ((1 : Int) * 64) (s : Int) == ((s + 64 : Nat) : Int)) = true := by kernel_rfl
theorem word_is (s i : Nat) (hs : s < 64) (hi : i < 2) : Go.bits .or .u64 ((i : Int) * 64) (s : Int) = ((s + 64 * i : Nat) : Int) := by
  have := List.all_eq_true.1 word_tab s (List.mem_range.2 hs)
  simp only [Bool.and_eq_true, beq_iff_eq] at this
  rcases (show i = 0 ∨ i = 1 by omega) with rfl | rfl
  · exact this.1
  · exact this.2
theorem word_any (s i : Nat) (hs : s < 64) (hi : i < 2) (w : World) :
    Calls Tryd.prog 90 #[.int .i64 (s : Int), .int .u8 (i : Int)] w fun e w' => e = .returned (.int .u64 ((s + 64 * i : Nat) : Int)) ∧ w = w' := by
  have hw := word_is s i hs hi
  go_enter Tryd.func90, Tryd.ntmps90
  go_wp2
  go_ret
  exact ⟨rfl, rfl⟩
theorem right_any (s i : Nat) (hs : s < 64) (hi : i < 2) (w : World) :
    Calls Tryd.prog 89 #[.int .i64 (s : Int), .int .u8 (i : Int)] w fun e w' => e = .returned (.bool true) ∧ w = w' := by
  have hd : decide ((i : Int) ≤ 1) = true := by simp; omega
  go_enter Tryd.func89, Tryd.ntmps89
  go_wp2
  go_ret
  exact ⟨rfl, rfl⟩

/-- Four bits, as a value. -/
abbrev obV (x : Nat) : Value := .agg #[.int .u8 (ob x 0 : Nat), .int .u8 (ob x 1 : Nat), .int .u8 (ob x 2 : Nat), .int .u8 (ob x 3 : Nat)]
set_option maxHeartbeats 1600000 in
set_option maxRecDepth 100000 in
theorem Out_any (s i : Nat) (hs : s < 64) (hi : i < 2) (w : World) (ht : Taps w) :
    Calls Tryd.prog 88 #[.int .i64 (s : Int), .int .u8 (i : Int)] w fun e w' => e = .returned (.tuple #[obV (s + 64 * i), .int .i64 0]) ∧ Below w.heap.size w w' := by
  have HT := Aside0.mk ht
  clear ht
  go_enter Tryd.func88, Tryd.ntmps88
  go_wp2_with (first | (go_at_call 89; refine (right_any s i hs hi _).mono ?_; rintro e w' ⟨rfl, rfl⟩) | (go_at_call 90; refine (word_any s i hs hi _).mono ?_; rintro e w' ⟨rfl, rfl⟩))
  refine (out_any (s + 64 * i) (by omega) _ (HT.out.below (below_alloc (Below.refl _ _) _))).mono ?_
  rintro e w1 ⟨rfl, hB⟩
  have HB := Aside0.mk hB
  have hb := (hB.block w.heap.size (by simp)).trans (heap_alloc_new w _)
  have f0 := blk_frozen hb 0
  have f1 := blk_frozen hb 1
  have f2 := blk_frozen hb 2
  have f3 := blk_frozen hb 3
  have c0 := blk_cell hb 0
  have c1 := blk_cell hb 1
  have c2 := blk_cell hb 2
  have c3 := blk_cell hb 3
  simp at c0 c1 c2 c3
  clear hB hb
  go_wp2_with fail
  have hB1 : Below w.heap.size w w1 := (below_alloc (Below.refl _ _) _).trans (HB.out.mono (by simp))
  exact bodyPost_ret (v := .tuple #[obV (s + 64 * i), .int .i64 0]) (by simp [results, Tryd.results88, go_sem, c0, c1, c2, c3]) rfl ⟨rfl, (((hB1.setCell (Nat.le_refl _) _).setCell (Nat.le_refl _) _).setCell (Nat.le_refl _) _).setCell (Nat.le_refl _) _⟩

theorem Next_any (s i : Nat) (hs : s < 64) (hi : i < 2) (w : World) :
    Calls Tryd.prog 58 #[.int .i64 (s : Int), .int .u8 (i : Int)] w fun e w' => e = .returned (.tuple #[.int .i64 (((s + 64 * i) / 2 : Nat) : Int), .int .i64 0]) ∧ w = w' := by
  go_enter Tryd.func58, Tryd.ntmps58
  go_wp2_with (first | (go_at_call 89; refine (right_any s i hs hi _).mono ?_; rintro e w' ⟨rfl, rfl⟩) | (go_at_call 90; refine (word_any s i hs hi _).mono ?_; rintro e w' ⟨rfl, rfl⟩))
  go_ret2
  exact ⟨by simp [Int.natCast_ediv], rfl⟩

/-- An edge, as a value. -/
abbrev edgeV (s i : Nat) : Value := .agg #[.int .i64 (s : Int), .int .i64 (((s + 64 * i) / 2 : Nat) : Int), .int .u8 (i : Int), .int .u8 (ob (s + 64 * i) 0 : Nat), .int .u8 (ob (s + 64 * i) 1 : Nat), .int .u8 (ob (s + 64 * i) 2 : Nat), .int .u8 (ob (s + 64 * i) 3 : Nat)]
set_option maxHeartbeats 1600000 in
set_option maxRecDepth 100000 in
theorem edge_any (s i : Nat) (hs : s < 64) (hi : i < 2) (w : World) (ht : Taps w) :
    Calls Tryd.prog 107 #[.int .i64 (s : Int), .int .u8 (i : Int)] w fun e w' => e = .returned (.tuple #[edgeV s i, .int .i64 0]) ∧ Below w.heap.size w w' := by
  have HT := Aside0.mk ht
  clear ht
  go_enter Tryd.func107, Tryd.ntmps107
  go_wp2_with fail
  refine (Out_any s i hs hi _ (HT.out.below (below_alloc (Below.refl _ _) _))).mono ?_
  rintro e w1 ⟨rfl, hB⟩
  have HB := Aside0.mk hB
  have hb := (hB.block w.heap.size (by simp)).trans (heap_alloc_new w _)
  have hz := hB.size
  simp at hz
  have fc0 := fun o => blk_frozen (blk_alloc hb o) 0
  have c0 := fun o => (blk_cell (blk_alloc hb o) 0)
  have fc1 := fun o => blk_frozen (blk_alloc hb o) 1
  have c1 := fun o => (blk_cell (blk_alloc hb o) 1)
  have fc2 := fun o => blk_frozen (blk_alloc hb o) 2
  have c2 := fun o => (blk_cell (blk_alloc hb o) 2)
  have fc3 := fun o => blk_frozen (blk_alloc hb o) 3
  have c3 := fun o => (blk_cell (blk_alloc hb o) 3)
  have fc4 := fun o => blk_frozen (blk_alloc hb o) 4
  have c4 := fun o => (blk_cell (blk_alloc hb o) 4)
  have fc5 := fun o => blk_frozen (blk_alloc hb o) 5
  have c5 := fun o => (blk_cell (blk_alloc hb o) 5)
  have fc6 := fun o => blk_frozen (blk_alloc hb o) 6
  have c6 := fun o => (blk_cell (blk_alloc hb o) 6)
  simp at c0 c1 c2 c3 c4 c5 c6
  clear hB hb
  have hto : ((s + 64 * i : Nat) : Int) / 2 = (((s + 64 * i) / 2 : Nat) : Int) := by omega
  go_wp2_with (first | (go_at_call 58; refine (Next_any s i hs hi _).mono ?_; rintro e w' ⟨rfl, rfl⟩))
  have hB1 : Below w.heap.size w w1 := (below_alloc (Below.refl _ _) _).trans (HB.out.mono (by simp))
  exact bodyPost_ret (v := .tuple #[.agg #[.int .i64 (s : Int), .int .i64 (((s : Int) + 64 * (i : Int)) / 2), .int .u8 (i : Int), .int .u8 (ob (s + 64 * i) 0 : Nat), .int .u8 (ob (s + 64 * i) 1 : Nat), .int .u8 (ob (s + 64 * i) 2 : Nat), .int .u8 (ob (s + 64 * i) 3 : Nat)], .int .i64 0])
    (by simp [results, Tryd.results107, go_sem, c0, c1, c2, c3, c4, c5, c6]) rfl
    ⟨by simp [Int.natCast_ediv], ((((((((hB1.alloc hB1.size _).setCell (Nat.le_refl _) _).setCell (Nat.le_refl _) _).setCell (Nat.le_refl _) _).setCell (Nat.le_refl _) _).setCell (Nat.le_refl _) _).setCell (Nat.le_refl _) _).setCell (Nat.le_refl _) _)⟩

end Go.Proofs.YtnejnnfjbhpigaaDoor.Vit

namespace Go.Proofs.YtnejnnfjbhpigaaDoor.Vit
open Go.RowKit Go.Proofs.YtnejnnfjbhpigaaDoorW.PrintWords Go.Proofs.YtnejnnfjbhpigaaDoorW.PrintLast Go.Proofs.YtnejnnfjbhpigaaDoorW.PrintMore Go.Proofs.YtnejnnfjbhpigaaDoor.Mem
attribute [local go_sem] max2_int min2_int max_two min_two max_three min_three max_four min_four   -- for this text's walks alone
set_option linter.unusedVariables false
set_option linter.unusedSimpArgs false

/-- Two edges, as a value. -/
abbrev twoV (s t i j : Nat) : Value := .agg #[.int .i64 (s : Int), .int .i64 (((s + 64 * i) / 2 : Nat) : Int), .int .u8 (i : Int), .int .u8 (ob (s + 64 * i) 0 : Nat), .int .u8 (ob (s + 64 * i) 1 : Nat), .int .u8 (ob (s + 64 * i) 2 : Nat), .int .u8 (ob (s + 64 * i) 3 : Nat), .int .i64 (t : Int), .int .i64 (((t + 64 * j) / 2 : Nat) : Int), .int .u8 (j : Int), .int .u8 (ob (t + 64 * j) 0 : Nat), .int .u8 (ob (t + 64 * j) 1 : Nat), .int .u8 (ob (t + 64 * j) 2 : Nat), .int .u8 (ob (t + 64 * j) 3 : Nat)]
set_option maxHeartbeats 3200000 in
set_option maxRecDepth 100000 in
theorem two_any (s t i j : Nat) (hs : s < 64) (ht64 : t < 64) (hi : i < 2) (hj : j < 2) (w : World) (ht : Taps w) :
    Calls Tryd.prog 103 #[.int .i64 (s : Int), .int .i64 (t : Int), .int .u8 (i : Int), .int .u8 (j : Int)] w fun e w' => e = .returned (.tuple #[twoV s t i j, .int .i64 0]) ∧ Below w.heap.size w w' := by
  have HT := Aside0.mk ht
  clear ht
  obtain ⟨a1, ha1⟩ : ∃ a, (s + 64 * i) / 2 = a := ⟨_, rfl⟩
  obtain ⟨a2, ha2⟩ : ∃ a, (t + 64 * j) / 2 = a := ⟨_, rfl⟩
  have HA1 := Aside0.mk ha1
  have HA2 := Aside0.mk ha2
  unfold twoV
  rw [ha1, ha2]
  clear ha1 ha2
  go_enter Tryd.func103, Tryd.ntmps103
  go_wp2_with fail
  refine (edge_any s i hs hi _ (HT.out.below (below_alloc (Below.refl _ _) _))).mono ?_
  unfold edgeV
  rw [HA1.out]
  rintro e w1 ⟨rfl, hB⟩
  have HB := Aside0.mk hB
  have hb := (hB.block w.heap.size (by simp)).trans (heap_alloc_new w _)
  have HBK := Aside0.mk hb
  have hz := hB.size
  simp at hz
  have hB1 : Below w.heap.size w w1 := (below_alloc (Below.refl _ _) _).trans (HB.out.mono (by simp))
  have HB1 := Aside0.mk hB1
  clear hB hb hB1
  go_wp2_with fail
  refine (edge_any t j ht64 hj _ (HT.out.below (HB1.out.alloc HB1.out.size _))).mono ?_
  unfold edgeV
  rw [HA2.out]
  rintro e w2 ⟨rfl, hB⟩
  have hz2 := hB.size
  simp at hz2
  have hb := (hB.block w.heap.size (by simp; omega)).trans (blk_alloc HBK.out _)
  have hk := (hB.block w1.heap.size (by simp)).trans (heap_alloc_new w1 _)
  have fc0 := fun o => blk_frozen (blk_alloc hb o) 0
  have c0 := fun o => (blk_cell (blk_alloc hb o) 0)
  have fc1 := fun o => blk_frozen (blk_alloc hb o) 1
  have c1 := fun o => (blk_cell (blk_alloc hb o) 1)
  have fc2 := fun o => blk_frozen (blk_alloc hb o) 2
  have c2 := fun o => (blk_cell (blk_alloc hb o) 2)
  have fc3 := fun o => blk_frozen (blk_alloc hb o) 3
  have c3 := fun o => (blk_cell (blk_alloc hb o) 3)
  have fc4 := fun o => blk_frozen (blk_alloc hb o) 4
  have c4 := fun o => (blk_cell (blk_alloc hb o) 4)
  have fc5 := fun o => blk_frozen (blk_alloc hb o) 5
  have c5 := fun o => (blk_cell (blk_alloc hb o) 5)
  have fc6 := fun o => blk_frozen (blk_alloc hb o) 6
  have c6 := fun o => (blk_cell (blk_alloc hb o) 6)
  have fc7 := fun o => blk_frozen (blk_alloc hb o) 7
  have c7 := fun o => (blk_cell (blk_alloc hb o) 7)
  have fc8 := fun o => blk_frozen (blk_alloc hb o) 8
  have c8 := fun o => (blk_cell (blk_alloc hb o) 8)
  have fc9 := fun o => blk_frozen (blk_alloc hb o) 9
  have c9 := fun o => (blk_cell (blk_alloc hb o) 9)
  have fc10 := fun o => blk_frozen (blk_alloc hb o) 10
  have c10 := fun o => (blk_cell (blk_alloc hb o) 10)
  have fc11 := fun o => blk_frozen (blk_alloc hb o) 11
  have c11 := fun o => (blk_cell (blk_alloc hb o) 11)
  have fc12 := fun o => blk_frozen (blk_alloc hb o) 12
  have c12 := fun o => (blk_cell (blk_alloc hb o) 12)
  have fc13 := fun o => blk_frozen (blk_alloc hb o) 13
  have c13 := fun o => (blk_cell (blk_alloc hb o) 13)
  simp at c0 c1 c2 c3 c4 c5 c6 c7 c8 c9 c10 c11 c12 c13
  have fd0 := fun o => blk_frozen (blk_alloc hk o) 0
  have d0 := fun o => (blk_cell (blk_alloc hk o) 0)
  have fd1 := fun o => blk_frozen (blk_alloc hk o) 1
  have d1 := fun o => (blk_cell (blk_alloc hk o) 1)
  have fd2 := fun o => blk_frozen (blk_alloc hk o) 2
  have d2 := fun o => (blk_cell (blk_alloc hk o) 2)
  have fd3 := fun o => blk_frozen (blk_alloc hk o) 3
  have d3 := fun o => (blk_cell (blk_alloc hk o) 3)
  have fd4 := fun o => blk_frozen (blk_alloc hk o) 4
  have d4 := fun o => (blk_cell (blk_alloc hk o) 4)
  have fd5 := fun o => blk_frozen (blk_alloc hk o) 5
  have d5 := fun o => (blk_cell (blk_alloc hk o) 5)
  have fd6 := fun o => blk_frozen (blk_alloc hk o) 6
  have d6 := fun o => (blk_cell (blk_alloc hk o) 6)
  simp at d0 d1 d2 d3 d4 d5 d6
  have hB2 : Below w.heap.size w w2 := (HB1.out.alloc HB1.out.size _).trans (hB.mono (by simp; omega))
  have HB2 := Aside0.mk hB2
  clear hB hb hk hB2
  go_wp2_with fail
  have hB2 := HB2.out
  exact bodyPost_ret (v := .tuple #[.agg #[.int .i64 (s : Int), .int .i64 (a1 : Int), .int .u8 (i : Int), .int .u8 (ob (s + 64 * i) 0 : Nat), .int .u8 (ob (s + 64 * i) 1 : Nat), .int .u8 (ob (s + 64 * i) 2 : Nat), .int .u8 (ob (s + 64 * i) 3 : Nat),
      .int .i64 (t : Int), .int .i64 (a2 : Int), .int .u8 (j : Int), .int .u8 (ob (t + 64 * j) 0 : Nat), .int .u8 (ob (t + 64 * j) 1 : Nat), .int .u8 (ob (t + 64 * j) 2 : Nat), .int .u8 (ob (t + 64 * j) 3 : Nat)], .int .i64 0])
    (by simp [results, Tryd.results103, go_sem, c0, c1, c2, c3, c4, c5, c6, c7, c8, c9, c10, c11, c12, c13]) rfl
    ⟨rfl, (((((((((((((((hB2.alloc hB2.size _).setCell (Nat.le_refl _) _).setCell (Nat.le_refl _) _).setCell (Nat.le_refl _) _).setCell (Nat.le_refl _) _).setCell (Nat.le_refl _) _).setCell (Nat.le_refl _) _).setCell (Nat.le_refl _) _).setCell (Nat.le_refl _) _).setCell (Nat.le_refl _) _).setCell (Nat.le_refl _) _).setCell (Nat.le_refl _) _).setCell (Nat.le_refl _) _).setCell (Nat.le_refl _) _).setCell (Nat.le_refl _) _)⟩

end Go.Proofs.YtnejnnfjbhpigaaDoor.Vit

namespace Go.Proofs.YtnejnnfjbhpigaaDoor.Vit
open Go.RowKit Go.Proofs.YtnejnnfjbhpigaaDoorW.PrintWords Go.Proofs.YtnejnnfjbhpigaaDoorW.PrintLast Go.Proofs.YtnejnnfjbhpigaaDoorW.PrintMore Go.Proofs.YtnejnnfjbhpigaaDoor.Mem
attribute [local go_sem] max2_int min2_int max_two min_two max_three min_three max_four min_four   -- for this text's walks alone
set_option linter.unusedVariables false
set_option linter.unusedSimpArgs false

theorem From_any (s : Nat) (hs : s < 64) (w : World) (ht : Taps w) :
    Calls Tryd.prog 100 #[.int .i64 (s : Int)] w fun e w' => e = .returned (.tuple #[twoV s s 0 1, .int .i64 0]) ∧ Below w.heap.size w w' := by
  have HT := Aside0.mk ht
  clear ht
  have H2 := two_any s s 0 1 hs hs (by omega) (by omega)
  have H := Aside0.mk H2
  clear H2
  go_enter Tryd.func100, Tryd.ntmps100
  go_wp2_with fail
  refine (H.out _ (HT.out.below (below_alloc (Below.refl _ _) _))).mono ?_
  rintro e w1 ⟨rfl, hB⟩
  have HB := Aside0.mk hB
  have hb := (hB.block w.heap.size (by simp)).trans (heap_alloc_new w _)
  have c0 := blk_cell hb 0
  have fc0 := blk_frozen hb 0
  have c1 := blk_cell hb 1
  have fc1 := blk_frozen hb 1
  have c2 := blk_cell hb 2
  have fc2 := blk_frozen hb 2
  have c3 := blk_cell hb 3
  have fc3 := blk_frozen hb 3
  have c4 := blk_cell hb 4
  have fc4 := blk_frozen hb 4
  have c5 := blk_cell hb 5
  have fc5 := blk_frozen hb 5
  have c6 := blk_cell hb 6
  have fc6 := blk_frozen hb 6
  have c7 := blk_cell hb 7
  have fc7 := blk_frozen hb 7
  have c8 := blk_cell hb 8
  have fc8 := blk_frozen hb 8
  have c9 := blk_cell hb 9
  have fc9 := blk_frozen hb 9
  have c10 := blk_cell hb 10
  have fc10 := blk_frozen hb 10
  have c11 := blk_cell hb 11
  have fc11 := blk_frozen hb 11
  have c12 := blk_cell hb 12
  have fc12 := blk_frozen hb 12
  have c13 := blk_cell hb 13
  have fc13 := blk_frozen hb 13
  simp at c0 c1 c2 c3 c4 c5 c6 c7 c8 c9 c10 c11 c12 c13
  have hB2 : Below w.heap.size w w1 := (below_alloc (Below.refl _ _) _).trans (HB.out.mono (by simp))
  have HB2 := Aside0.mk hB2
  clear hB hb hB2
  go_wp2_with fail
  have hB2 := HB2.out
  exact bodyPost_ret (v := .tuple #[twoV s s 0 1, .int .i64 0])
    (by simp [results, Tryd.results100, go_sem, c0, c1, c2, c3, c4, c5, c6, c7, c8, c9, c10, c11, c12, c13]) rfl
    ⟨rfl, ((((((((((((((hB2.setCell (Nat.le_refl _) _).setCell (Nat.le_refl _) _).setCell (Nat.le_refl _) _).setCell (Nat.le_refl _) _).setCell (Nat.le_refl _) _).setCell (Nat.le_refl _) _).setCell (Nat.le_refl _) _).setCell (Nat.le_refl _) _).setCell (Nat.le_refl _) _).setCell (Nat.le_refl _) _).setCell (Nat.le_refl _) _).setCell (Nat.le_refl _) _).setCell (Nat.le_refl _) _).setCell (Nat.le_refl _) _)⟩

/-- A bit's sign. -/
def sg (o : Nat) : Int := if o = 0 then 1 else -1
theorem Of_any (o : Nat) (w : World) : Calls Tryd.prog 53 #[.int .u8 (o : Int)] w fun e w' => e = .returned (.int .i64 (sg o)) ∧ w = w' := by
  unfold sg
  by_cases h : o = 0
  · subst h
    go_enter Tryd.func53, Tryd.ntmps53
    go_wp2
    go_ret
    exact ⟨rfl, rfl⟩
  · rw [if_neg h]
    have h1 : ((o : Int) == 0) = false := by simp; omega
    go_enter Tryd.func53, Tryd.ntmps53
    go_wp2
    go_ret
    exact ⟨rfl, rfl⟩

theorem sg_mul (x : Int) (o : Nat) (h0 : -1000 ≤ x) (h1 : x ≤ 1000) : -1000 ≤ x * sg o ∧ x * sg o ≤ 1000 := by
  unfold sg
  split <;> omega

set_option maxHeartbeats 3200000 in
set_option maxRecDepth 100000 in
theorem gain_any (b off n c : Nat) (x0 x1 x2 x3 : Int) (f t : Int) (i : Int) (o0 o1 o2 o3 : Nat) (w : World) (hn : 4 ≤ n)
    (c0 : w.cell? ⟨b, off, none⟩ = some (.int .i64 x0)) (c1 : w.cell? ⟨b, off + 1, none⟩ = some (.int .i64 x1)) (c2 : w.cell? ⟨b, off + 2, none⟩ = some (.int .i64 x2)) (c3 : w.cell? ⟨b, off + 3, none⟩ = some (.int .i64 x3))
    (b0 : -1000 ≤ x0 ∧ x0 ≤ 1000) (b1 : -1000 ≤ x1 ∧ x1 ≤ 1000) (b2 : -1000 ≤ x2 ∧ x2 ≤ 1000) (b3 : -1000 ≤ x3 ∧ x3 ≤ 1000) :
    Calls Tryd.prog 104 #[.slice (some ⟨b, off, none⟩) n c, .agg #[.int .i64 f, .int .i64 t, .int .u8 i, .int .u8 (o0 : Int), .int .u8 (o1 : Int), .int .u8 (o2 : Int), .int .u8 (o3 : Int)]] w fun e w' =>
      e = .returned (.int .i64 (x0 * sg o0 + x1 * sg o1 + x2 * sg o2 + x3 * sg o3)) ∧ Below w.heap.size w w' := by
  have m0 := sg_mul x0 o0 b0.1 b0.2
  have m1 := sg_mul x1 o1 b1.1 b1.2
  have m2 := sg_mul x2 o2 b2.1 b2.2
  have m3 := sg_mul x3 o3 b3.1 b3.2
  obtain ⟨p0, hp0⟩ : ∃ p, x0 * sg o0 = p := ⟨_, rfl⟩
  obtain ⟨p1, hp1⟩ : ∃ p, x1 * sg o1 = p := ⟨_, rfl⟩
  obtain ⟨p2, hp2⟩ : ∃ p, x2 * sg o2 = p := ⟨_, rfl⟩
  obtain ⟨p3, hp3⟩ : ∃ p, x3 * sg o3 = p := ⟨_, rfl⟩
  rw [hp0] at m0
  rw [hp1] at m1
  rw [hp2] at m2
  rw [hp3] at m3
  rw [hp0, hp1, hp2, hp3]
  obtain ⟨m00, m01⟩ := m0
  obtain ⟨m10, m11⟩ := m1
  obtain ⟨m20, m21⟩ := m2
  obtain ⟨m30, m31⟩ := m3
  have d0 : ∀ o, (w.alloc o).cell? ⟨b, off, none⟩ = some (.int .i64 x0) := fun o => Lib.cell?_alloc_some _ c0
  have d1 : ∀ o, (w.alloc o).cell? ⟨b, off + 1, none⟩ = some (.int .i64 x1) := fun o => Lib.cell?_alloc_some _ c1
  have d2 : ∀ o, (w.alloc o).cell? ⟨b, off + 2, none⟩ = some (.int .i64 x2) := fun o => Lib.cell?_alloc_some _ c2
  have d3 : ∀ o, (w.alloc o).cell? ⟨b, off + 3, none⟩ = some (.int .i64 x3) := fun o => Lib.cell?_alloc_some _ c3
  have i0 : ∀ w : World, (Instr.index 67 (.agg #[.int .u8 (o0 : Int), .int .u8 (o1 : Int), .int .u8 (o2 : Int), .int .u8 (o3 : Int)]) (.int .i64 0)).run Tryd.prog w = .ok (.int .u8 (o0 : Int)) w := fun _ => by kernel_rfl
  have i1 : ∀ w : World, (Instr.index 67 (.agg #[.int .u8 (o0 : Int), .int .u8 (o1 : Int), .int .u8 (o2 : Int), .int .u8 (o3 : Int)]) (.int .i64 1)).run Tryd.prog w = .ok (.int .u8 (o1 : Int)) w := fun _ => by kernel_rfl
  have i2 : ∀ w : World, (Instr.index 67 (.agg #[.int .u8 (o0 : Int), .int .u8 (o1 : Int), .int .u8 (o2 : Int), .int .u8 (o3 : Int)]) (.int .i64 2)).run Tryd.prog w = .ok (.int .u8 (o2 : Int)) w := fun _ => by kernel_rfl
  have i3 : ∀ w : World, (Instr.index 67 (.agg #[.int .u8 (o0 : Int), .int .u8 (o1 : Int), .int .u8 (o2 : Int), .int .u8 (o3 : Int)]) (.int .i64 3)).run Tryd.prog w = .ok (.int .u8 (o3 : Int)) w := fun _ => by kernel_rfl
  have hn1 : (1 : Int) < (n : Int) := by omega
  have hn2 : (2 : Int) < (n : Int) := by omega
  have hn3 : (3 : Int) < (n : Int) := by omega
  have wp0 : IntKind.i64.wrap p0 = p0 := IntWalk.i64_in _ (by omega)
  have wp1 : IntKind.i64.wrap p1 = p1 := IntWalk.i64_in _ (by omega)
  have wp2 : IntKind.i64.wrap p2 = p2 := IntWalk.i64_in _ (by omega)
  have wp3 : IntKind.i64.wrap p3 = p3 := IntWalk.i64_in _ (by omega)
  have ws1 : IntKind.i64.wrap (p0 + p1) = p0 + p1 := IntWalk.i64_in _ (by omega)
  have ws2 : IntKind.i64.wrap (p0 + p1 + p2) = p0 + p1 + p2 := IntWalk.i64_in _ (by omega)
  have ws3 : IntKind.i64.wrap (p0 + p1 + p2 + p3) = p0 + p1 + p2 + p3 := IntWalk.i64_in _ (by omega)
  clear b0 b1 b2 b3
  go_enter Tryd.func104, Tryd.ntmps104
  go_wp2_with fail
  refine wp_loop_rounds 5 ?_
  rw [rounds_succ]
  go_wp2_with fail
  go_quiet ((go_at_call 53; exact Calls.quiet_of_same ((Of_any o0 _).mono fun _ _ ⟨h1, h2⟩ => ⟨h1, h2.symm⟩)))
  go_wp2_with fail
  rw [rounds_succ]
  go_wp2_with fail
  go_quiet ((go_at_call 53; exact (Of_any o1 _).mono fun _ _ h => ⟨h.1, _, h.2.symm⟩))
  go_wp2_with fail
  rw [rounds_succ]
  go_wp2_with fail
  go_quiet ((go_at_call 53; exact (Of_any o2 _).mono fun _ _ h => ⟨h.1, _, h.2.symm⟩))
  go_wp2_with fail
  rw [rounds_succ]
  go_wp2_with fail
  go_quiet ((go_at_call 53; exact (Of_any o3 _).mono fun _ _ h => ⟨h.1, _, h.2.symm⟩))
  go_wp2_with fail
  rw [rounds_succ]
  go_wp2_with fail
  go_ret
  exact ⟨rfl, pw_below_drewN (below_alloc (Below.refl _ _) _) _⟩

end Go.Proofs.YtnejnnfjbhpigaaDoor.Vit

namespace Go.Proofs.YtnejnnfjbhpigaaDoor.Vit
open Go.RowKit Go.Proofs.YtnejnnfjbhpigaaDoorW.PrintWords Go.Proofs.YtnejnnfjbhpigaaDoorW.PrintLast Go.Proofs.YtnejnnfjbhpigaaDoorW.PrintMore Go.Proofs.YtnejnnfjbhpigaaDoor.Mem
attribute [local go_sem] max2_int min2_int max_two min_two max_three min_three max_four min_four   -- for this text's walks alone
set_option linter.unusedVariables false
set_option linter.unusedSimpArgs false


/-- No way at all. -/
def none40 : Int := -1099511627776
/-- What four numbers and an edge's four bits score. -/
def gn (x0 x1 x2 x3 : Int) (o0 o1 o2 o3 : Nat) : Int := x0 * sg o0 + x1 * sg o1 + x2 * sg o2 + x3 * sg o3
theorem lies_lt {w : World} {a : Addr} {v : Value} (h : w.cell? a = some v) : a.block < w.heap.size := by
  unfold World.cell? at h
  split at h
  · rename_i hb
    exact (Array.getElem?_eq_some_iff.1 hb).1
  · simp at h
theorem below_cell {w wx : World} (hb : Below w.heap.size w wx) {a : Addr} {v : Value} (h : w.cell? a = some v) : wx.cell? a = some v := (hb.cell (lies_lt h)).trans h
/-- One edge more. -/
def stp (top g n : Int) : Int := if n = none40 then top else max top (g + n)
theorem stp_some {top g n : Int} (h : ¬ n = none40) : stp top g n = max top (g + n) := if_neg h
theorem stp_none {top g n : Int} (h : n = none40) : stp top g n = top := if_pos h
theorem gn_in (x0 x1 x2 x3 : Int) (o0 o1 o2 o3 : Nat) (b0 : -1000 ≤ x0 ∧ x0 ≤ 1000) (b1 : -1000 ≤ x1 ∧ x1 ≤ 1000) (b2 : -1000 ≤ x2 ∧ x2 ≤ 1000) (b3 : -1000 ≤ x3 ∧ x3 ≤ 1000) :
    -4000 ≤ gn x0 x1 x2 x3 o0 o1 o2 o3 ∧ gn x0 x1 x2 x3 o0 o1 o2 o3 ≤ 4000 := by
  have m0 := sg_mul x0 o0 b0.1 b0.2
  have m1 := sg_mul x1 o1 b1.1 b1.2
  have m2 := sg_mul x2 o2 b2.1 b2.2
  have m3 := sg_mul x3 o3 b3.1 b3.2
  unfold gn
  omega

set_option maxHeartbeats 3200000 in
set_option maxRecDepth 100000 in
theorem best_1 (b off n c eb eo ec bb bo : Nat) (x0 x1 x2 x3 : Int) (f0 t0 i0 o00 o01 o02 o03 : Nat) (B0 : Int) (w : World) (hn : 4 ≤ n)
    (c0 : w.cell? ⟨b, off, none⟩ = some (.int .i64 x0)) (c1 : w.cell? ⟨b, off + 1, none⟩ = some (.int .i64 x1)) (c2 : w.cell? ⟨b, off + 2, none⟩ = some (.int .i64 x2)) (c3 : w.cell? ⟨b, off + 3, none⟩ = some (.int .i64 x3))
    (e0 : w.cell? ⟨eb, eo, none⟩ = some (.int .i64 (f0 : Int))) (e1 : w.cell? ⟨eb, eo + 1, none⟩ = some (.int .i64 (t0 : Int))) (e2 : w.cell? ⟨eb, eo + 2, none⟩ = some (.int .u8 (i0 : Int))) (e3 : w.cell? ⟨eb, eo + 3, none⟩ = some (.int .u8 (o00 : Int))) (e4 : w.cell? ⟨eb, eo + 4, none⟩ = some (.int .u8 (o01 : Int))) (e5 : w.cell? ⟨eb, eo + 5, none⟩ = some (.int .u8 (o02 : Int))) (e6 : w.cell? ⟨eb, eo + 6, none⟩ = some (.int .u8 (o03 : Int)))
    (h0 : w.cell? ⟨bb, bo + t0, none⟩ = some (.int .i64 B0)) (ht0 : t0 < 64) (hB0 : B0 = none40 ∨ -1000000000 ≤ B0 ∧ B0 ≤ 1000000000)
    (b0 : -1000 ≤ x0 ∧ x0 ≤ 1000) (b1 : -1000 ≤ x1 ∧ x1 ≤ 1000) (b2 : -1000 ≤ x2 ∧ x2 ≤ 1000) (b3 : -1000 ≤ x3 ∧ x3 ≤ 1000) :
    Calls Tryd.prog 101 #[.slice (some ⟨b, off, none⟩) n c, .slice (some ⟨eb, eo, none⟩) 1 ec, .pointer (some ⟨bb, bo, none⟩)] w fun e w' =>
      e = .returned (.int .i64 (stp none40 (gn x0 x1 x2 x3 o00 o01 o02 o03) B0)) ∧ Below w.heap.size w w' := by
  have l0 : (t0 : Int) < 64 := by omega
  have gg0 := gn_in x0 x1 x2 x3 o00 o01 o02 o03 b0 b1 b2 b3
  have G0 := fun W => gain_any b off n c x0 x1 x2 x3 f0 t0 (i0 : Int) o00 o01 o02 o03 W hn
  change ∀ W, _ → _ → _ → _ → _ → _ → _ → _ → Calls _ _ _ _ (fun e w' => e = .returned (.int .i64 (gn x0 x1 x2 x3 o00 o01 o02 o03)) ∧ _) at G0
  obtain ⟨g0, hg0⟩ : ∃ g, gn x0 x1 x2 x3 o00 o01 o02 o03 = g := ⟨_, rfl⟩
  rw [hg0] at gg0
  simp only [hg0] at G0
  rw [hg0]
  have GG0 := Aside0.mk G0
  have GB0 := Aside0.mk gg0
  have HBn0 := Aside0.mk hB0
  clear hg0 G0 gg0 hB0
  have BB := Aside0.mk (And.intro b0 (And.intro b1 (And.intro b2 b3)))
  have CC := Aside0.mk (And.intro c0 (And.intro c1 (And.intro c2 c3)))
  clear b0 b1 b2 b3 c0 c1 c2 c3
  go_enter Tryd.func101, Tryd.ntmps101
  go_wp2_with fail
  refine wp_loop_rounds 2 ?_
  rw [rounds_succ]
  have k0 : ∀ o, (w.alloc o).cell? ⟨bb, bo + t0, none⟩ = some (.int .i64 B0) := fun o => Lib.cell?_alloc_some _ h0
  clear h0
  go_upto_block 1 with fail
  go_cut [7] (fun s7 wx => s7 = .int .i64 (stp none40 g0 B0) ∧ Below w.heap.size w wx)
  case first =>
    go_wp2_with fail
    go_quiet (fail)
    by_cases hq : B0 = none40
    · have hz : ((B0 == (-1099511627776 : Int)) = true) := by rw [hq]; rfl
      go_wp2_with fail
      go_meet
      exact ⟨by rw [stp_none hq]; rfl, pw_below_drewN (below_alloc (Below.refl _ _) _) _⟩
    · have hz : ((B0 == (-1099511627776 : Int)) = false) := by simpa [none40] using hq
      go_wp2_with fail
      refine (GG0.out _ (below_cell (pw_below_drewN (below_alloc (Below.refl _ _) _) _) CC.out.1) (below_cell (pw_below_drewN (below_alloc (Below.refl _ _) _) _) CC.out.2.1) (below_cell (pw_below_drewN (below_alloc (Below.refl _ _) _) _) CC.out.2.2.1) (below_cell (pw_below_drewN (below_alloc (Below.refl _ _) _) _) CC.out.2.2.2) BB.out.1 BB.out.2.1 BB.out.2.2.1 BB.out.2.2.2).mono ?_
      rintro e w1 ⟨rfl, hB1⟩
      have HB1 := Aside0.mk ((pw_below_drewN (below_alloc (Below.refl _ _) _) _).trans (hB1.mono (by simp)))
      have hwr : IntKind.i64.wrap (g0 + B0) = g0 + B0 := IntWalk.i64_in _ (by have h1 := HBn0.out; have h2 := GB0.out; rcases h1 with h1 | h1 <;> omega)
      clear hB1
      go_wp2_with fail
      all_goals
        go_meet
        refine ⟨?_, HB1.out⟩
        rw [stp_some hq]
        congr 1
        rename_i hle
        have hnn : none40 = -1099511627776 := rfl
        omega
  case rest =>
    obtain ⟨rfl, hW⟩ := hcut
    have HW0 := Aside0.mk hW
    clear hW
    go_wp2_with fail
    rw [rounds_succ]
    go_wp2_with fail
    go_ret
    exact ⟨rfl, HW0.out⟩

set_option maxHeartbeats 3200000 in
set_option maxRecDepth 100000 in
theorem best_2 (b off n c eb eo ec bb bo : Nat) (x0 x1 x2 x3 : Int) (f0 t0 i0 o00 o01 o02 o03 f1 t1 i1 o10 o11 o12 o13 : Nat) (B0 B1 : Int) (w : World) (hn : 4 ≤ n)
    (c0 : w.cell? ⟨b, off, none⟩ = some (.int .i64 x0)) (c1 : w.cell? ⟨b, off + 1, none⟩ = some (.int .i64 x1)) (c2 : w.cell? ⟨b, off + 2, none⟩ = some (.int .i64 x2)) (c3 : w.cell? ⟨b, off + 3, none⟩ = some (.int .i64 x3))
    (e0 : w.cell? ⟨eb, eo, none⟩ = some (.int .i64 (f0 : Int))) (e1 : w.cell? ⟨eb, eo + 1, none⟩ = some (.int .i64 (t0 : Int))) (e2 : w.cell? ⟨eb, eo + 2, none⟩ = some (.int .u8 (i0 : Int))) (e3 : w.cell? ⟨eb, eo + 3, none⟩ = some (.int .u8 (o00 : Int))) (e4 : w.cell? ⟨eb, eo + 4, none⟩ = some (.int .u8 (o01 : Int))) (e5 : w.cell? ⟨eb, eo + 5, none⟩ = some (.int .u8 (o02 : Int))) (e6 : w.cell? ⟨eb, eo + 6, none⟩ = some (.int .u8 (o03 : Int))) (e7 : w.cell? ⟨eb, eo + 7, none⟩ = some (.int .i64 (f1 : Int))) (e8 : w.cell? ⟨eb, eo + 8, none⟩ = some (.int .i64 (t1 : Int))) (e9 : w.cell? ⟨eb, eo + 9, none⟩ = some (.int .u8 (i1 : Int))) (e10 : w.cell? ⟨eb, eo + 10, none⟩ = some (.int .u8 (o10 : Int))) (e11 : w.cell? ⟨eb, eo + 11, none⟩ = some (.int .u8 (o11 : Int))) (e12 : w.cell? ⟨eb, eo + 12, none⟩ = some (.int .u8 (o12 : Int))) (e13 : w.cell? ⟨eb, eo + 13, none⟩ = some (.int .u8 (o13 : Int)))
    (h0 : w.cell? ⟨bb, bo + t0, none⟩ = some (.int .i64 B0)) (ht0 : t0 < 64) (hB0 : B0 = none40 ∨ -1000000000 ≤ B0 ∧ B0 ≤ 1000000000) (h1 : w.cell? ⟨bb, bo + t1, none⟩ = some (.int .i64 B1)) (ht1 : t1 < 64) (hB1 : B1 = none40 ∨ -1000000000 ≤ B1 ∧ B1 ≤ 1000000000)
    (b0 : -1000 ≤ x0 ∧ x0 ≤ 1000) (b1 : -1000 ≤ x1 ∧ x1 ≤ 1000) (b2 : -1000 ≤ x2 ∧ x2 ≤ 1000) (b3 : -1000 ≤ x3 ∧ x3 ≤ 1000) :
    Calls Tryd.prog 101 #[.slice (some ⟨b, off, none⟩) n c, .slice (some ⟨eb, eo, none⟩) 2 ec, .pointer (some ⟨bb, bo, none⟩)] w fun e w' =>
      e = .returned (.int .i64 (stp (stp none40 (gn x0 x1 x2 x3 o00 o01 o02 o03) B0) (gn x0 x1 x2 x3 o10 o11 o12 o13) B1)) ∧ Below w.heap.size w w' := by
  have l0 : (t0 : Int) < 64 := by omega
  have gg0 := gn_in x0 x1 x2 x3 o00 o01 o02 o03 b0 b1 b2 b3
  have G0 := fun W => gain_any b off n c x0 x1 x2 x3 f0 t0 (i0 : Int) o00 o01 o02 o03 W hn
  change ∀ W, _ → _ → _ → _ → _ → _ → _ → _ → Calls _ _ _ _ (fun e w' => e = .returned (.int .i64 (gn x0 x1 x2 x3 o00 o01 o02 o03)) ∧ _) at G0
  obtain ⟨g0, hg0⟩ : ∃ g, gn x0 x1 x2 x3 o00 o01 o02 o03 = g := ⟨_, rfl⟩
  rw [hg0] at gg0
  simp only [hg0] at G0
  rw [hg0]
  have GG0 := Aside0.mk G0
  have GB0 := Aside0.mk gg0
  have HBn0 := Aside0.mk hB0
  clear hg0 G0 gg0 hB0
  have l1 : (t1 : Int) < 64 := by omega
  have gg1 := gn_in x0 x1 x2 x3 o10 o11 o12 o13 b0 b1 b2 b3
  have G1 := fun W => gain_any b off n c x0 x1 x2 x3 f1 t1 (i1 : Int) o10 o11 o12 o13 W hn
  change ∀ W, _ → _ → _ → _ → _ → _ → _ → _ → Calls _ _ _ _ (fun e w' => e = .returned (.int .i64 (gn x0 x1 x2 x3 o10 o11 o12 o13)) ∧ _) at G1
  obtain ⟨g1, hg1⟩ : ∃ g, gn x0 x1 x2 x3 o10 o11 o12 o13 = g := ⟨_, rfl⟩
  rw [hg1] at gg1
  simp only [hg1] at G1
  rw [hg1]
  have GG1 := Aside0.mk G1
  have GB1 := Aside0.mk gg1
  have HBn1 := Aside0.mk hB1
  clear hg1 G1 gg1 hB1
  have BB := Aside0.mk (And.intro b0 (And.intro b1 (And.intro b2 b3)))
  have CC := Aside0.mk (And.intro c0 (And.intro c1 (And.intro c2 c3)))
  clear b0 b1 b2 b3 c0 c1 c2 c3
  have EE := Aside0.mk (And.intro e7 (And.intro e8 (And.intro e9 (And.intro e10 (And.intro e11 (And.intro e12 (And.intro e13 (h1))))))))
  clear h1 e7 e8 e9 e10 e11 e12 e13
  go_enter Tryd.func101, Tryd.ntmps101
  go_wp2_with fail
  refine wp_loop_rounds 3 ?_
  rw [rounds_succ]
  have k0 : ∀ o, (w.alloc o).cell? ⟨bb, bo + t0, none⟩ = some (.int .i64 B0) := fun o => Lib.cell?_alloc_some _ h0
  clear h0
  go_upto_block 1 with fail
  go_cut [7] (fun s7 wx => s7 = .int .i64 (stp none40 g0 B0) ∧ Below w.heap.size w wx)
  case first =>
    go_wp2_with fail
    go_quiet (fail)
    by_cases hq : B0 = none40
    · have hz : ((B0 == (-1099511627776 : Int)) = true) := by rw [hq]; rfl
      go_wp2_with fail
      go_meet
      exact ⟨by rw [stp_none hq]; rfl, pw_below_drewN (below_alloc (Below.refl _ _) _) _⟩
    · have hz : ((B0 == (-1099511627776 : Int)) = false) := by simpa [none40] using hq
      go_wp2_with fail
      refine (GG0.out _ (below_cell (pw_below_drewN (below_alloc (Below.refl _ _) _) _) CC.out.1) (below_cell (pw_below_drewN (below_alloc (Below.refl _ _) _) _) CC.out.2.1) (below_cell (pw_below_drewN (below_alloc (Below.refl _ _) _) _) CC.out.2.2.1) (below_cell (pw_below_drewN (below_alloc (Below.refl _ _) _) _) CC.out.2.2.2) BB.out.1 BB.out.2.1 BB.out.2.2.1 BB.out.2.2.2).mono ?_
      rintro e w1 ⟨rfl, hB1⟩
      have HB1 := Aside0.mk ((pw_below_drewN (below_alloc (Below.refl _ _) _) _).trans (hB1.mono (by simp)))
      have hwr : IntKind.i64.wrap (g0 + B0) = g0 + B0 := IntWalk.i64_in _ (by have h1 := HBn0.out; have h2 := GB0.out; rcases h1 with h1 | h1 <;> omega)
      clear hB1
      go_wp2_with fail
      all_goals
        go_meet
        refine ⟨?_, HB1.out⟩
        rw [stp_some hq]
        congr 1
        rename_i hle
        have hnn : none40 = -1099511627776 := rfl
        omega
  case rest =>
    obtain ⟨rfl, hW⟩ := hcut
    have HW0 := Aside0.mk hW
    clear hW
    go_wp2_with fail
    rw [rounds_succ]
    obtain ⟨e7, e8, e9, e10, e11, e12, e13, h1⟩ := EE.out
    replace e7 := below_cell HW0.out e7
    replace e8 := below_cell HW0.out e8
    replace e9 := below_cell HW0.out e9
    replace e10 := below_cell HW0.out e10
    replace e11 := below_cell HW0.out e11
    replace e12 := below_cell HW0.out e12
    replace e13 := below_cell HW0.out e13
    replace h1 := below_cell HW0.out h1
    have k1 : ∀ o, (wc.alloc o).cell? ⟨bb, bo + t1, none⟩ = some (.int .i64 B1) := fun o => Lib.cell?_alloc_some _ h1
    clear h1
    go_upto_block 1 with fail
    go_cut [7] (fun s7 wx => s7 = .int .i64 (stp (stp none40 g0 B0) g1 B1) ∧ Below w.heap.size w wx)
    case first =>
      go_wp2_with fail
      go_quiet (fail)
      by_cases hq : B1 = none40
      · have hz : ((B1 == (-1099511627776 : Int)) = true) := by rw [hq]; rfl
        go_wp2_with fail
        go_meet
        exact ⟨by rw [stp_none hq], (HW0.out.trans ((pw_below_drewN (below_alloc (Below.refl _ _) _) _).mono HW0.out.size))⟩
      · have hz : ((B1 == (-1099511627776 : Int)) = false) := by simpa [none40] using hq
        go_wp2_with fail
        refine (GG1.out _ (below_cell ((HW0.out.trans ((pw_below_drewN (below_alloc (Below.refl _ _) _) _).mono HW0.out.size))) CC.out.1) (below_cell ((HW0.out.trans ((pw_below_drewN (below_alloc (Below.refl _ _) _) _).mono HW0.out.size))) CC.out.2.1) (below_cell ((HW0.out.trans ((pw_below_drewN (below_alloc (Below.refl _ _) _) _).mono HW0.out.size))) CC.out.2.2.1) (below_cell ((HW0.out.trans ((pw_below_drewN (below_alloc (Below.refl _ _) _) _).mono HW0.out.size))) CC.out.2.2.2) BB.out.1 BB.out.2.1 BB.out.2.2.1 BB.out.2.2.2).mono ?_
        rintro e w1 ⟨rfl, hB1⟩
        have HB1 := Aside0.mk (((HW0.out.trans ((pw_below_drewN (below_alloc (Below.refl _ _) _) _).mono HW0.out.size))).trans (hB1.mono (by have := HW0.out.size; simp; omega)))
        have hwr : IntKind.i64.wrap (g1 + B1) = g1 + B1 := IntWalk.i64_in _ (by have h1 := HBn1.out; have h2 := GB1.out; rcases h1 with h1 | h1 <;> omega)
        clear hB1
        go_wp2_with fail
        all_goals
          go_meet
          refine ⟨?_, HB1.out⟩
          rw [stp_some hq]
          congr 1
          rename_i hle
          have hnn : none40 = -1099511627776 := rfl
          omega
    case rest =>
      obtain ⟨rfl, hW⟩ := hcut
      have HW1 := Aside0.mk hW
      clear hW
      go_wp2_with fail
      rw [rounds_succ]
      go_wp2_with fail
      go_ret
      exact ⟨rfl, HW1.out⟩

end Go.Proofs.YtnejnnfjbhpigaaDoor.Vit
