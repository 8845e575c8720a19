/- Sums of 32 bits: the table's way and the division's way tell the same: plain numbers alone, no program. -/
import Derived.KernelRfl
import Derived.Test.YtnejnnfjbhpigaaDoorVf
import Derived.Test.YtnejnnfjbhpigaaDoorVr
namespace Go.Proofs.YtnejnnfjbhpigaaDoor.Crc
set_option linter.unusedVariables false

/-- One bit is taken. -/
def bstep (n : Nat) : Nat := n / 2 ^^^ (if n % 2 = 1 then 3988292384 else 0)
theorem xor_half (a b : Nat) : (a ^^^ b) / 2 = a / 2 ^^^ b / 2 := by
  have := Nat.shiftRight_xor_distrib (a := a) (b := b) (i := 1)
  simpa [Nat.shiftRight_eq_div_pow] using this
theorem xor_odd (a b : Nat) : (a ^^^ b) % 2 = (a % 2 + b % 2) % 2 := by
  have h := Nat.testBit_xor (x := a) (y := b) (i := 0)
  simp only [Nat.testBit_zero] at h
  rcases Nat.mod_two_eq_zero_or_one a with ha | ha <;> rcases Nat.mod_two_eq_zero_or_one b with hb | hb <;> rcases Nat.mod_two_eq_zero_or_one (a ^^^ b) with hc | hc <;> rw [ha, hb, hc] at h <;> simp at h <;> rw [ha, hb, hc]
theorem step_xor (a b : Nat) : bstep (a ^^^ b) = bstep a ^^^ bstep b := by
  unfold bstep
  rw [xor_half, xor_odd]
  rcases Nat.mod_two_eq_zero_or_one a with ha | ha <;> rcases Nat.mod_two_eq_zero_or_one b with hb | hb <;> simp [ha, hb]
  · ac_rfl
  · ac_rfl
  · rw [show a / 2 ^^^ 3988292384 ^^^ (b / 2 ^^^ 3988292384) = a / 2 ^^^ b / 2 ^^^ (3988292384 ^^^ 3988292384) by ac_rfl, Nat.xor_self, Nat.xor_zero]
theorem step_even (m : Nat) : bstep (2 * m) = m := by
  unfold bstep
  rw [if_neg (by omega)]
  simp
theorem step_lt {n : Nat} (h : n < 4294967296) : bstep n < 4294967296 := by
  unfold bstep
  apply Nat.xor_lt_two_pow (n := 32)
  · omega
  · split <;> omega
def steps : Nat → Nat → Nat
  | 0, n => n
  | k + 1, n => steps k (bstep n)
theorem steps_xor (k : Nat) : ∀ a b, steps k (a ^^^ b) = steps k a ^^^ steps k b := by
  induction k with
  | zero => intro a b; rfl
  | succ k ih => intro a b; show steps k (bstep (a ^^^ b)) = _; rw [step_xor, ih]; rfl
theorem steps_pow (k : Nat) : ∀ m, steps k (2 ^ k * m) = m := by
  induction k with
  | zero => intro m; simp [steps]
  | succ k ih =>
    intro m
    show steps k (bstep (2 ^ (k + 1) * m)) = m
    rw [show 2 ^ (k + 1) * m = 2 * (2 ^ k * m) by rw [Nat.pow_succ]; ac_rfl, step_even, ih]
theorem steps_lt (k : Nat) : ∀ {n}, n < 4294967296 → steps k n < 4294967296 := by
  induction k with
  | zero => intro n h; exact h
  | succ k ih => intro n h; exact ih (step_lt h)
theorem steps_add (j k : Nat) : ∀ n, steps (j + k) n = steps k (steps j n) := by
  induction j with
  | zero => intro n; rw [Nat.zero_add]; rfl
  | succ j ih => intro n; rw [show j + 1 + k = (j + k) + 1 by omega]; exact ih (bstep n)
theorem split16 (n : Nat) : n = 16 * (n / 16) ^^^ n % 16 := by
  have h := Nat.div_add_mod n 16
  have h2 : 2 ^ 4 * (n / 16) + n % 16 = 2 ^ 4 * (n / 16) ||| n % 16 := Nat.two_pow_add_eq_or_of_lt (by omega) _
  apply Nat.eq_of_testBit_eq
  intro i
  rw [Nat.testBit_xor]
  by_cases hi : i < 4
  · have e1 : (16 * (n / 16)).testBit i = false := by
      rw [show 16 * (n / 16) = 2 ^ 4 * (n / 16) by rfl, Nat.testBit_two_pow_mul]
      simp; omega
    have e2 : (n % 16).testBit i = n.testBit i := by
      rw [show n % 16 = n % 2 ^ 4 by rfl, Nat.testBit_mod_two_pow]
      simp [hi]
    rw [e1, e2]
    simp
  · have e1 : (n % 16).testBit i = false := by
      rw [show n % 16 = n % 2 ^ 4 by rfl, Nat.testBit_mod_two_pow]
      simp [hi]
    have e2 : (16 * (n / 16)).testBit i = n.testBit i := by
      rw [show 16 * (n / 16) = 2 ^ 4 * (n / 16) by rfl, Nat.testBit_two_pow_mul, show n / 16 = n / 2 ^ 4 by rfl, Nat.testBit_div_two_pow]
      simp; rw [show i - 4 + 4 = i by omega]; simp; omega
    rw [e1, e2]
    simp
/-- Four bits by the table. -/
theorem nibble (n : Nat) : n / 16 ^^^ steps 4 (n % 16) = steps 4 n := by
  conv => rhs; rw [split16 n]
  rw [steps_xor, show 16 * (n / 16) = 2 ^ 4 * (n / 16) by rfl, steps_pow]
/-- One byte, and all of them. -/
def byteStep (n c : Nat) : Nat := steps 8 (n ^^^ c)
def reg (b : List Nat) : Nat := b.foldl byteStep 4294967295
def sum (b : List Nat) : Nat := reg b ^^^ 4294967295
theorem byteStep_lt {n c : Nat} (hn : n < 4294967296) (hc : c < 256) : byteStep n c < 4294967296 := steps_lt 8 (Nat.xor_lt_two_pow (n := 32) hn (by omega))
theorem byte_two (n c : Nat) : steps 4 (steps 4 (n ^^^ c)) = byteStep n c := (steps_add 4 4 _).symm
theorem reg_snoc (b : List Nat) (c : Nat) : reg (b ++ [c]) = byteStep (reg b) c := by unfold reg; rw [List.foldl_append]; rfl
theorem reg_lt (b : List Nat) (hb : ∀ c ∈ b, c < 256) : reg b < 4294967296 := by
  have : ∀ (l : List Nat) (n : Nat), (∀ c ∈ l, c < 256) → n < 4294967296 → l.foldl byteStep n < 4294967296 := by
    intro l
    induction l with
    | nil => intro n _ h; exact h
    | cons c l ih => intro n h hn; exact ih _ (fun x hx => h x (List.mem_cons_of_mem _ hx)) (byteStep_lt hn (h c List.mem_cons_self))
  exact this b _ hb (by omega)
end Go.Proofs.YtnejnnfjbhpigaaDoor.Crc

namespace Go.Proofs.YtnejnnfjbhpigaaDoor.Crc
set_option linter.unusedVariables false

def bit (n k : Nat) : Nat := n / 2 ^ k % 2
theorem bit_test (n k : Nat) : bit n k = (n.testBit k).toNat := (Nat.toNat_testBit n k).symm
theorem bit_le (n k : Nat) : bit n k ≤ 1 := by unfold bit; omega
theorem bit_xor (a b k : Nat) : bit (a ^^^ b) k = bit a k ^^^ bit b k := by
  rw [bit_test, bit_test, bit_test, Nat.testBit_xor]
  cases a.testBit k <;> cases b.testBit k <;> rfl
theorem bit_half (n k : Nat) : bit (n / 2) k = bit n (k + 1) := by
  unfold bit
  rw [Nat.div_div_eq_div_mul, Nat.pow_succ, Nat.mul_comm 2]
theorem bit_big {n k : Nat} (h : n < 2 ^ k) : bit n k = 0 := by unfold bit; rw [Nat.div_eq_of_lt h]
theorem bit_zero (n : Nat) : bit n 0 = n % 2 := by unfold bit; simp
theorem bit_one {b : Nat} (hb : b ≤ 1) (k : Nat) : bit b (k + 1) = 0 := bit_big (Nat.lt_of_le_of_lt hb (Nat.one_lt_two_pow (by omega)))
theorem bit_self {b : Nat} (hb : b ≤ 1) : bit b 0 = b := by rw [bit_zero]; omega
theorem bit_step (n k : Nat) : bit (bstep n) k = bit n (k + 1) ^^^ (if n % 2 = 1 then bit 3988292384 k else 0) := by
  unfold bstep
  rw [bit_xor, bit_half]
  by_cases h : n % 2 = 1
  · rw [if_pos h, if_pos h]
  · rw [if_neg h, if_neg h, show bit 0 k = 0 by unfold bit; simp]
/-- The division's coefficients. -/
def pc : List Nat := [1, 0, 0, 0, 0, 0, 1, 0, 0, 1, 1, 0, 0, 0, 0, 0, 1, 0, 0, 0, 1, 1, 1, 0, 1, 1, 0, 1, 1, 0, 1, 1, 1]
theorem pc_len : pc.length = 33 := rfl
theorem pc_zero : pc.getD 0 0 = 1 := rfl
theorem pc_bit : ∀ k, k < 32 → pc.getD (k + 1) 0 = bit 3988292384 k := by
  have h : (List.range 32).all (fun k => pc.getD (k + 1) 0 == bit 3988292384 k) = true := by decide +kernel
  intro k hk
  have := List.all_eq_true.1 h k (List.mem_range.2 hk)
  simpa using this
/-- The register behind so many bits. -/
def D (m : Nat → Nat) : Nat → Nat
  | 0 => 4294967295
  | i + 1 => bstep (D m i ^^^ m i)
theorem D_lt (m : Nat → Nat) (hm : ∀ i, m i ≤ 1) : ∀ i, D m i < 4294967296
  | 0 => by unfold D; omega
  | i + 1 => step_lt (Nat.xor_lt_two_pow (n := 32) (D_lt m hm i) (by have := hm i; omega))
/-- The row behind so many steps of the division, from a place on. -/
def row (m : Nat → Nat) (i j : Nat) : Nat := m j ^^^ (if j < i + 32 then bit (D m i) (j - i) else 0)
theorem xor_self_bit {a b : Nat} : a ^^^ b ^^^ b = a := by rw [Nat.xor_assoc, Nat.xor_self, Nat.xor_zero]
theorem row_first (m : Nat → Nat) (j : Nat) : row m 0 j = m j ^^^ (if j < 32 then 1 else 0) := by
  unfold row
  congr 1
  rw [Nat.zero_add, Nat.sub_zero]
  by_cases h : j < 32
  · rw [if_pos h, if_pos h]
    have h : (List.range 32).all (fun k => bit (D m 0) k == 1) = true := by
      unfold D
      decide +kernel
    have := List.all_eq_true.1 h j (List.mem_range.2 (by omega))
    simpa using this
  · rw [if_neg h, if_neg h]
theorem row_head (m : Nat → Nat) (hm : ∀ i, m i ≤ 1) (i : Nat) : row m i i = (D m i ^^^ m i) % 2 := by
  unfold row
  rw [if_pos (by omega), Nat.sub_self, ← bit_zero, bit_xor, bit_self (hm i), Nat.xor_comm]
/-- One bstep of the division: nothing is taken off. -/
theorem row_next0 (m : Nat → Nat) (hm : ∀ i, m i ≤ 1) (i j : Nat) (hj : i < j) (h : row m i i = 0) : row m (i + 1) j = row m i j := by
  rw [row_head m hm] at h
  unfold row
  congr 1
  have hx : bit (D m (i + 1)) (j - (i + 1)) = bit (D m i) (j - i) := by
    show bit (bstep (D m i ^^^ m i)) (j - (i + 1)) = _
    rw [bit_step, if_neg (by omega), Nat.xor_zero, bit_xor, bit_one (hm i), Nat.xor_zero, show j - (i + 1) + 1 = j - i by omega]
  by_cases h1 : j < i + 32
  · rw [if_pos h1, if_pos (by omega), hx]
  · by_cases h2 : j < i + 1 + 32
    · rw [if_neg h1, if_pos h2, hx, show j - i = 32 by omega, bit_big (D_lt m hm i)]
    · rw [if_neg h1, if_neg h2]
/-- One bstep of the division: the coefficients are taken off. -/
theorem row_next1 (m : Nat → Nat) (hm : ∀ i, m i ≤ 1) (i j : Nat) (hj : i < j) (h : row m i i = 1) : row m (i + 1) j = row m i j ^^^ (if j ≤ i + 32 then pc.getD (j - i) 0 else 0) := by
  rw [row_head m hm] at h
  unfold row
  rw [Nat.xor_assoc]
  congr 1
  have hx : bit (D m (i + 1)) (j - (i + 1)) = bit (D m i) (j - i) ^^^ bit 3988292384 (j - (i + 1)) := by
    show bit (bstep (D m i ^^^ m i)) (j - (i + 1)) = _
    rw [bit_step, if_pos h, bit_xor, bit_one (hm i), Nat.xor_zero, show j - (i + 1) + 1 = j - i by omega]
  by_cases h1 : j < i + 32
  · rw [if_pos h1, if_pos (by omega), if_pos (by omega), hx, ← pc_bit _ (by omega), show j - (i + 1) + 1 = j - i by omega]
  · by_cases h2 : j < i + 1 + 32
    · rw [if_neg h1, if_pos h2, if_pos (by omega), hx, ← pc_bit _ (by omega), show j - (i + 1) + 1 = j - i by omega, show j - i = 32 by omega, bit_big (D_lt m hm i)]
    · rw [if_neg h1, if_neg h2, if_neg (by omega), Nat.xor_zero]
/-- The bits of bytes, the lowest first. -/
def bitsL (b : List Nat) (j : Nat) : Nat := if j < 8 * b.length then bit (b.getD (j / 8) 0) (j % 8) else 0
theorem bitsL_le (b : List Nat) (j : Nat) : bitsL b j ≤ 1 := by unfold bitsL; split; exact bit_le _ _; omega
theorem low_more (c k : Nat) : c % 2 ^ (k + 1) = c % 2 ^ k ^^^ 2 ^ k * bit c k := by
  apply Nat.eq_of_testBit_eq
  intro i
  rw [Nat.testBit_xor, Nat.testBit_mod_two_pow, Nat.testBit_mod_two_pow, Nat.testBit_two_pow_mul, bit_test]
  rcases Nat.lt_trichotomy i k with h | h | h
  · simp [show i < k + 1 by omega, h, show ¬ k ≤ i by omega]
  · subst h
    cases c.testBit i <;> simp
  · have : ((c.testBit k).toNat).testBit (i - k) = false := by
      obtain ⟨e, he⟩ : ∃ e, i - k = e + 1 := ⟨i - k - 1, by omega⟩
      rw [he]
      cases c.testBit k <;> simp [Nat.testBit_succ]
    rw [this]
    simp [show ¬ i < k + 1 by omega, show ¬ i < k by omega]
theorem step_last (k n : Nat) : steps (k + 1) n = bstep (steps k n) := steps_add k 1 n
theorem D_bits (b : List Nat) (t : Nat) (ht : t < b.length) : ∀ k, k ≤ 8 → D (bitsL b) (8 * t + k) = steps k (D (bitsL b) (8 * t) ^^^ b.getD t 0 % 2 ^ k) := by
  intro k
  induction k with
  | zero => intro _; simp [steps, Nat.mod_one]
  | succ k ih =>
    intro hk
    have hb : bitsL b (8 * t + k) = bit (b.getD t 0) k := by
      unfold bitsL
      rw [if_pos (by omega), show (8 * t + k) / 8 = t by omega, show (8 * t + k) % 8 = k by omega]
    show bstep (D (bitsL b) (8 * t + k) ^^^ bitsL b (8 * t + k)) = _
    rw [ih (by omega), hb, step_last, low_more]
    congr 1
    conv => lhs; rw [← steps_pow k (bit (b.getD t 0) k), ← steps_xor]
    rw [Nat.xor_assoc]
theorem D_reg (b : List Nat) (hb : ∀ c ∈ b, c < 256) : ∀ t, t ≤ b.length → D (bitsL b) (8 * t) = reg (b.take t)
  | 0, _ => rfl
  | t + 1, h => by
    rw [show 8 * (t + 1) = 8 * t + 8 by omega, D_bits b t (by omega) 8 (Nat.le_refl _), D_reg b hb t (by omega), List.take_succ_eq_append_getElem (by omega), reg_snoc]
    unfold byteStep
    have e : b.getD t 0 = b[t]'(by omega) := by rw [List.getD_eq_getElem?_getD, List.getElem?_eq_getElem (by omega)]; rfl
    rw [e, Nat.mod_eq_of_lt (by have := hb _ (List.getElem_mem (l := b) (n := t) (by omega)); omega)]
theorem row_last (b : List Nat) (hb : ∀ c ∈ b, c < 256) (j : Nat) (hj : j < 32) : row (bitsL b) (8 * b.length) (8 * b.length + j) = bit (reg b) j := by
  unfold row
  rw [if_pos (by omega), D_reg b hb _ (Nat.le_refl _), List.take_length, show 8 * b.length + j - 8 * b.length = j by omega]
  unfold bitsL
  rw [if_neg (by omega), Nat.zero_xor]
/-- The number of a row of bits. -/
def low (n k : Nat) : Nat := n % 2 ^ k
theorem low_or (n k : Nat) : low n (k + 1) = low n k ||| bit n k * 2 ^ k := by
  unfold low
  have h : n % 2 ^ k < 2 ^ k := Nat.mod_lt _ (Nat.two_pow_pos k)
  rw [low_more, Nat.mul_comm (bit n k), Nat.xor_comm, Nat.or_comm]
  apply Nat.eq_of_testBit_eq
  intro i
  rw [Nat.testBit_xor, Nat.testBit_or, Nat.testBit_two_pow_mul, Nat.testBit_mod_two_pow]
  by_cases h2 : i < k
  · simp [h2, show ¬ k ≤ i by omega]
  · simp [h2]
theorem low_all {n : Nat} (h : n < 4294967296) : low n 32 = n := Nat.mod_eq_of_lt h
end Go.Proofs.YtnejnnfjbhpigaaDoor.Crc

namespace Go.Proofs.YtnejnnfjbhpigaaDoor.Vit
open Go.RowKit Go.Proofs.YtnejnnfjbhpigaaDoorW.PrintWords Go.Proofs.YtnejnnfjbhpigaaDoorW.PrintLast Go.Proofs.YtnejnnfjbhpigaaDoorW.PrintMore Go.Proofs.YtnejnnfjbhpigaaDoor.Mem Go.Proofs.YtnejnnfjbhpigaaDoor.Crc
attribute [local go_sem] max2_int min2_int max_two min_two max_three min_three max_four min_four   -- for this text's walks alone
set_option linter.unusedVariables false
set_option linter.unusedSimpArgs false

theorem bits_xor (k : IntKind) (j : Nat) (hj : j ≤ k.bits) (hk : ∀ n : Int, 0 ≤ n → n < 2 ^ j → k.wrap n = n) (a b : Nat) (ha : a < 2 ^ j) (hb : b < 2 ^ j) :
    Go.bits .xor k a b = ((a ^^^ b : Nat) : Int) := by
  have hp : 2 ^ j ≤ 2 ^ k.bits := Nat.pow_le_pow_right (by decide) hj
  have ha' : a % 2 ^ k.bits = a := Nat.mod_eq_of_lt (Nat.lt_of_lt_of_le ha hp)
  have hb' : b % 2 ^ k.bits = b := Nat.mod_eq_of_lt (Nat.lt_of_lt_of_le hb hp)
  have cast : ∀ n : Nat, n < 2 ^ j → ((n : Nat) : Int) < 2 ^ j := fun n h => by exact_mod_cast h
  simp only [Go.bits, BitVec.ofInt_natCast, BitVec.toNat_xor, BitVec.toNat_ofNat, ha', hb']
  exact hk _ (Int.natCast_nonneg _) (cast _ (Nat.xor_lt_two_pow ha hb))
theorem w64_in (x : Int) (h1 : -9223372036854775808 ≤ x) (h2 : x ≤ 9223372036854775807) : wrap64 x = x := by unfold wrap64; omega
theorem wraps_u32 (n : Int) (h₀ : 0 ≤ n) (h₁ : n < 2 ^ 32) : IntKind.u32.wrap n = n := by rw [IntKind.wrap_u32]; omega
theorem xor_u32 {a b : Nat} (ha : a < 4294967296) (hb : b < 4294967296) : Go.bits .xor .u32 (a : Int) (b : Int) = ((a ^^^ b : Nat) : Int) := bits_xor .u32 32 (by decide) wraps_u32 a b ha hb
theorem and_u32 {a b : Nat} (ha : a < 4294967296) (hb : b < 4294967296) : Go.bits .and .u32 (a : Int) (b : Int) = ((a &&& b : Nat) : Int) := (bits_nat .u32 32 (by decide) wraps_u32 a b ha hb).1
theorem or_u32 {a b : Nat} (ha : a < 4294967296) (hb : b < 4294967296) : Go.bits .or .u32 (a : Int) (b : Int) = ((a ||| b : Nat) : Int) := (bits_nat .u32 32 (by decide) wraps_u32 a b ha hb).2
/-- The table so far. -/
def tabL (i : Nat) : List Value := (List.range 16).map fun j => .int .u32 ((if j < i then steps 4 j else 0 : Nat) : Int)
theorem tabL_len (i : Nat) : (tabL i).length = 16 := by simp [tabL]
theorem tab_one (i : Nat) : (tabL i).toArray.all (·.oneCell') = true := by simp [tabL, Value.oneCell']
theorem tab_set (i : Nat) (h : i < 16) : (tabL i).toArray.setIfInBounds i (.int .u32 ((steps 4 i : Nat) : Int)) = (tabL (i + 1)).toArray := by
  apply Array.ext'
  rw [Array.toList_setIfInBounds]
  show (tabL i).set i _ = tabL (i + 1)
  apply List.ext_getElem?
  intro j
  rw [List.getElem?_set, tabL_len]
  unfold tabL
  by_cases hj : j < 16
  · rw [List.getElem?_map, List.getElem?_map, List.getElem?_range hj]
    by_cases hij : i = j
    · subst hij
      rw [if_pos rfl, if_pos h]
      simp
    · rw [if_neg hij]
      simp only [Option.map_some]
      by_cases h1 : j < i
      · rw [if_pos h1, if_pos (by omega)]
      · rw [if_neg h1, if_neg (by omega)]
  · rw [List.getElem?_eq_none (by simp; omega), List.getElem?_eq_none (by simp; omega), if_neg (by omega)]
theorem tab_zero : (#[.int .u32 0, .int .u32 0, .int .u32 0, .int .u32 0, .int .u32 0, .int .u32 0, .int .u32 0, .int .u32 0, .int .u32 0, .int .u32 0, .int .u32 0, .int .u32 0, .int .u32 0, .int .u32 0, .int .u32 0, .int .u32 0] : Array Value) = (tabL 0).toArray := by kernel_rfl
theorem tab_get (i j : Nat) (hj : j < 16) : (tabL i).toArray[j]? = some (.int .u32 ((if j < i then steps 4 j else 0 : Nat) : Int)) := by
  simp [tabL, hj]
theorem info142 : (Tryd.prog.info? 142).map (·.size) = some 16 := by kernel_rfl
/-- One bit is taken, as the program reckons it. -/
theorem step_bits {n : Nat} (hn : n < 4294967296) : ∃ r : Int, Go.bits .and .u32 (n : Int) 1 = r ∧ ∃ q : Int, IntKind.u32.wrap (-r) = q ∧ ∃ z : Int, Go.bits .and .u32 3988292384 q = z ∧ ∃ m : Nat, (n : Int) / 2 = (m : Int) ∧ Go.bits .xor .u32 (m : Int) z = (bstep n : Nat) := by
  have h1 : Go.bits .and .u32 (n : Int) 1 = ((n % 2 : Nat) : Int) := by
    have := and_u32 (a := n) (b := 1) hn (by omega)
    rw [show ((1 : Nat) : Int) = 1 by rfl] at this
    rw [this, Nat.and_one_is_mod]
  have h2 : n / 2 < 4294967296 := by omega
  refine ⟨_, h1, ?_⟩
  unfold bstep
  rcases Nat.mod_two_eq_zero_or_one n with h | h
  · refine ⟨0, by rw [h]; decide, 0, by decide, n / 2, by omega, ?_⟩
    rw [if_neg (by omega)]
    exact xor_u32 (b := 0) h2 (by omega)
  · refine ⟨4294967295, by rw [h]; decide, 3988292384, by decide, n / 2, by omega, ?_⟩
    rw [if_pos h]
    exact xor_u32 (b := 3988292384) h2 (by omega)
def IsTab (w : World) (i : Nat) (W : World) : Prop :=
  W.heap[w.heap.size + 1]? = some (.cells (tabL i).toArray 142 (0, 0)) ∧ W.heap[w.heap.size]? = some (.cells (tabL 0).toArray 142 (0, 0)) ∧ w.heap.size + 2 ≤ W.heap.size ∧ Below w.heap.size w W
set_option maxHeartbeats 1600000 in
set_option maxRecDepth 100000 in
theorem build32_any (w : World) : Calls Tryd.prog 94 #[] w fun e w' => e = .returned (.agg (tabL 16).toArray) ∧ Below w.heap.size w w' := by
  have hz := tab_zero
  have HZ := Aside0.mk hz
  clear hz
  go_enter Tryd.func94, Tryd.ntmps94
  go_wp2
  rw [HZ.out]
  go_loopw [4] (fun x4 wr => ∃ i : Nat, x4 = .int .i64 i ∧ i ≤ 16 ∧ IsTab w i wr) (fun x4 _ => 16 - (intOf x4).toNat)
  case atStart =>
    refine ⟨0, rfl, by omega, ?_, ?_, by simp, below_alloc (below_alloc (Below.refl _ _) _) _⟩
    · have := heap_alloc_new (w.alloc (.cells (tabL 0).toArray 142)) (.cells (tabL 0).toArray 142)
      simpa using this
    · rw [Below.heap_alloc _ _ _ (by simp)]
      exact heap_alloc_new _ _
  case round =>
    obtain ⟨i, rfl, hi, hR⟩ := hrel
    have HR := Aside0.mk hR
    clear hR
    by_cases h16 : i < 16
    · have hlt : (i : Int) < 16 := by omega
      have hw : IntKind.u32.wrap (i : Int) = (i : Int) := wraps_u32 _ (by omega) (by omega)
      go_wp2
      go_loopw [3, 9] (fun x3 x9 wr2 => ∃ k : Nat, x9 = .int .i64 k ∧ k ≤ 4 ∧ x3 = .int .u32 ((steps k i : Nat) : Int) ∧ wr2 = wr) (fun _ x9 _ => 4 - (intOf x9).toNat)
      case atStart => exact ⟨0, rfl, by omega, rfl, rfl⟩
      case round =>
        obtain ⟨k, rfl, hk, rfl, rfl⟩ := hrel
        by_cases h4 : k < 4
        · have hlt4 : (k : Int) < 4 := by omega
          obtain ⟨n, hn⟩ : ∃ n, steps k i = n := ⟨_, rfl⟩
          have hn32 : n < 4294967296 := by rw [← hn]; exact steps_lt k (by omega)
          have hnx : steps (k + 1) i = bstep n := by rw [step_last, hn]
          rw [hn]
          obtain ⟨r, e1, q, e2, z, e3, m, e4, e5⟩ := step_bits hn32
          obtain ⟨y, hy⟩ : ∃ y, bstep n = y := ⟨_, rfl⟩
          rw [hy] at hnx e5
          have HN := Aside0.mk (And.intro hnx hn32)
          clear hn hn32 hnx hy
          go_wp2
          exact ⟨⟨k + 1, by go_num, by omega, by rw [HN.out.1], trivial⟩, by simp only [intOf]; omega⟩
        · have hge : ¬ (k : Int) < 4 := by omega
          obtain rfl : k = 4 := by omega
          have hcell := HR.out.1
          have hfr : wr.frozen? ⟨w.heap.size + 1, i, none⟩ = false := blk_frozen hcell _
          have hce := (blk_cell hcell i).trans (tab_get i i h16)
          clear hcell
          go_wp2
          have hs := HR.out.2.2.1
          refine ⟨⟨i + 1, by go_num, by omega, ?_, ?_, ?_, ?_⟩, by simp only [intOf]; omega⟩
          · rw [← tab_set i h16]
            exact blk_set HR.out.1 _ _
          · rw [Below.heap_setCell _ _ _ _ (by simp)]
            exact HR.out.2.1
          · simpa [World.setCell] using hs
          · exact HR.out.2.2.2.setCell (p := ⟨w.heap.size + 1, i, none⟩) (by show w.heap.size ≤ w.heap.size + 1; omega) _
    · have hge : ¬ (i : Int) < 16 := by omega
      obtain rfl : i = 16 := by omega
      have hra : wr.rangeAt (w.heap.size + 1) 0 (tabL 16) := fun j v hv => by rw [Nat.zero_add, blk_cell HR.out.1]; simpa using hv
      have hth : wr.there w.heap.size 0 (tabL 16).toArray.size := there_of_row HR.out.2.1 (by simp [tabL])
      have HH := Aside0.mk (And.intro hra hth)
      clear hra hth
      go_upto_region 12 with fail
      refine wp_region_lit ?_
      refine wpList_load_mid rfl 142 _ rfl (w.heap.size + 1) 0 rfl (tabL 16) _ HH.out.1 Tryd.underlying142 rfl (by rw [tabL_len]; exact info142) ?_
      refine wpList_store_mid rfl 142 _ _ rfl w.heap.size 0 (tabL 16).toArray rfl rfl HH.out.2 (by rw [List.size_toArray, tabL_len]; exact info142) (tab_one 16) ?_
      refine wpList_nil ?_
      obtain ⟨W, hW⟩ : ∃ W, (World.setCells wr w.heap.size 0 (tabL 16)) = W := ⟨_, rfl⟩
      change Exit.then _ _ .normal _ (World.setCells wr w.heap.size 0 (tabL 16))
      rw [hW]
      have HWW := Aside0.mk hW
      clear hW
      go_wp2_with fail
      obtain ⟨A', h1, h2, h3⟩ := setCells_row (tabL 16) 0 wr _ HR.out.2.1 (by simp [tabL])
      have hAA : A' = (tabL 16).toArray := by
        apply Array.toList_inj.1
        rw [h3]
        simp [tabL]
      subst hAA
      rw [HWW.out] at h1
      have hld : (loadVar 142 ⟨w.heap.size, 0, none⟩).run Tryd.prog W = .ok (.agg (tabL 16).toArray) W :=
        run_loadVar_row W w.heap.size 142 142 (tabL 16).toArray (0, 0) _ h1 Tryd.underlying142 rfl (by rw [List.size_toArray, tabL_len]; exact info142)
      refine bodyPost_ret (v := .agg (tabL 16).toArray) (by simp [results, Tryd.results94, asAddr, hld]) rfl ⟨rfl, ?_⟩
      rw [← HWW.out]
      exact below_setCells (Nat.le_refl _) _ _ _ HR.out.2.2.2
end Go.Proofs.YtnejnnfjbhpigaaDoor.Vit

namespace Go.Proofs.YtnejnnfjbhpigaaDoor.Vit
open Go.RowKit Go.Proofs.YtnejnnfjbhpigaaDoorW.PrintWords Go.Proofs.YtnejnnfjbhpigaaDoorW.PrintLast Go.Proofs.YtnejnnfjbhpigaaDoorW.PrintMore Go.Proofs.YtnejnnfjbhpigaaDoor.Mem Go.Proofs.YtnejnnfjbhpigaaDoor.Crc
attribute [local go_sem] max2_int min2_int max_two min_two max_three min_three max_four min_four   -- for this text's walks alone
set_option linter.unusedVariables false
set_option linter.unusedSimpArgs false

/-- Half a byte is taken, as the program reckons it. -/
theorem nib_bits {x : Nat} (hx : x < 4294967296) : ∃ m r t y : Nat, ((x : Int) / 16 = (m : Int) ∧ (x : Int).tmod 16 = (r : Int) ∧ Go.bits .xor .u32 (m : Int) (t : Int) = (y : Int)) ∧ r < 16 ∧ steps 4 r = t ∧ steps 4 x = y ∧ y < 4294967296 := by
  refine ⟨x / 16, x % 16, steps 4 (x % 16), steps 4 x, ⟨by omega, by rw [Int.tmod_eq_emod_of_nonneg (by omega)]; omega, ?_⟩, by omega, rfl, rfl, steps_lt 4 hx⟩
  rw [xor_u32 (by omega) (steps_lt 4 (by omega)), nibble]
theorem not_u32 {x : Nat} (hx : x < 4294967296) : Go.bits .xor .u32 IntKind.u32.max (x : Int) = ((x ^^^ 4294967295 : Nat) : Int) := by
  have e : IntKind.u32.max = ((4294967295 : Nat) : Int) := by decide
  rw [e, xor_u32 (by omega) hx, Nat.xor_comm]
set_option maxHeartbeats 1600000 in
set_option maxRecDepth 100000 in
theorem Sum32_any (b : List Nat) (hb : ∀ x ∈ b, x < 256) (A : Option Addr) (n c : Nat) (w : World) (hn : b.length = n) (hC : (Kd.int .u8).C w A n (ints b)) (hl : n ≤ 1000000) :
    Calls Tryd.prog 70 #[.slice A n c] w fun e w' => e = .returned (.int .u32 (Crc.sum b : Nat)) ∧ Below w.heap.size w w' := by
  have HC := Aside0.mk (And.intro hC (And.intro hn hb))
  clear hC hn hb
  have hz := tab_zero
  have HZ := Aside0.mk hz
  clear hz
  go_enter Tryd.func70, Tryd.ntmps70
  go_upto_region 1 with fail
  refine wp_region_lit ?_
  refine wpList_step (fun K hK => ?_)
  go_simp
  go_at_call 94
  refine (build32_any _).mono ?_
  rintro e w1 ⟨rfl, hB1⟩
  have HB1 := Aside0.mk hB1
  clear hB1
  refine hK _ _ ?_
  clear hK K
  refine wpList_plain rfl (fun _ hK => ?_)
  go_simp
  refine hK _ _ ?_
  clear hK
  rw [HZ.out]
  have hth : (w1.alloc (.cells (tabL 0).toArray 142)).there w1.heap.size 0 (tabL 16).toArray.size := there_of_row (heap_alloc_new w1 _) (by simp [tabL])
  refine wpList_store_mid rfl 142 _ _ rfl w1.heap.size 0 (tabL 16).toArray rfl rfl hth (by rw [List.size_toArray, tabL_len]; exact info142) (tab_one 16) ?_
  clear hth
  refine wpList_nil ?_
  obtain ⟨W, hW⟩ : ∃ W, (World.setCells (w1.alloc (.cells (tabL 0).toArray 142)) w1.heap.size 0 (tabL 16)) = W := ⟨_, rfl⟩
  change Exit.then _ _ .normal _ (World.setCells (w1.alloc (.cells (tabL 0).toArray 142)) w1.heap.size 0 (tabL 16))
  rw [hW]
  have hWG : W.heap[w1.heap.size]? = some (.cells (tabL 16).toArray 142 (0, 0)) := by
    obtain ⟨A', h1, h2, h3⟩ := setCells_row (tabL 16) 0 (w1.alloc (.cells (tabL 0).toArray 142)) _ (heap_alloc_new w1 _) (by simp [tabL])
    have hAA : A' = (tabL 16).toArray := by
      apply Array.toList_inj.1
      rw [h3]
      simp [tabL]
    rw [← hW]
    rw [hAA] at h1
    exact h1
  have hBW : Below w.heap.size w W := by
    rw [← hW]
    exact below_setCells (HB1.out.size) _ _ _ (below_alloc HB1.out _)
  have HW := Aside0.mk (And.intro hWG hBW)
  clear hW hWG hBW
  go_wp2
  go_loopw [4, 10] (fun x4 x10 wr => ∃ k : Nat, x10 = .int .i64 k ∧ k ≤ n ∧ x4 = .int .u32 ((reg (b.take k) : Nat) : Int) ∧ wr = W) (fun _ x10 _ => n - (intOf x10).toNat)
  case atStart => exact ⟨0, rfl, by omega, rfl, rfl⟩
  case round =>
    obtain ⟨k, rfl, hk, rfl, rfl⟩ := hrel
    by_cases hkn : k < n
    · have hlt : (k : Int) < (n : Int) := by omega
      obtain ⟨ad, hA, hcell⟩ := Kd.at_int (Kd.C_below HC.out.1 HW.out.2) (k : Int) (by omega) hlt
      cases hA
      have hkb : k < b.length := by have := HC.out.2.1; omega
      have hrd : rd (ints b) (k : Int) = ((b[k] : Nat) : Int) := by simp [rd, ints, List.getD_eq_getElem?_getD, List.getElem?_eq_getElem hkb]
      have hx256 : b[k] < 256 := HC.out.2.2 _ (List.getElem_mem hkb)
      have htk : reg (b.take (k + 1)) = byteStep (reg (b.take k)) b[k] := by rw [List.take_succ_eq_append_getElem hkb, reg_snoc]
      obtain ⟨x, hx⟩ : ∃ x, b[k] = x := ⟨_, rfl⟩
      rw [hx] at hrd hx256 htk
      rw [hrd, Int.toNat_natCast] at hcell
      obtain ⟨R, hR⟩ : ∃ R, reg (b.take k) = R := ⟨_, rfl⟩
      have hR32 : R < 4294967296 := by rw [← hR]; exact reg_lt _ (fun y hy => HC.out.2.2 y (List.mem_of_mem_take hy))
      rw [hR] at htk ⊢
      rw [← byte_two] at htk
      obtain ⟨x1, hx1⟩ : ∃ x1, R ^^^ x = x1 := ⟨_, rfl⟩
      have hx132 : x1 < 4294967296 := by rw [← hx1]; exact Nat.xor_lt_two_pow (n := 32) hR32 (by omega)
      have e0 : Go.bits .xor .u32 (R : Int) (x : Int) = (x1 : Int) := by rw [← hx1]; exact xor_u32 hR32 (by omega)
      rw [hx1] at htk
      obtain ⟨m2, r2, t2, y2, ⟨f1, f2, f3⟩, f4, f5, f6, f7⟩ := nib_bits hx132
      obtain ⟨m3, r3, t3, y3, ⟨g1, g2, g3⟩, g4, g5, g6, g7⟩ := nib_bits f7
      rw [f6, g6] at htk
      have hc2 : wr.cell? ⟨w1.heap.size, r2, none⟩ = some (.int .u32 (t2 : Int)) := by rw [blk_cell HW.out.1, tab_get 16 r2 f4, if_pos f4, f5]
      have hc3 : wr.cell? ⟨w1.heap.size, r3, none⟩ = some (.int .u32 (t3 : Int)) := by rw [blk_cell HW.out.1, tab_get 16 r3 g4, if_pos g4, g5]
      have hw8 : IntKind.u32.wrap (x : Int) = (x : Int) := wraps_u32 _ (by omega) (by omega)
      have hr2 : (r2 : Int) < 16 := by omega
      have hr3 : (r3 : Int) < 16 := by omega
      have HN := Aside0.mk htk
      clear hrd hx256 htk hx hR hR32 hx1 hx132 f4 f5 f6 f7 g4 g5 g6 g7
      go_wp2
      exact ⟨⟨k + 1, by go_num, by omega, by rw [HN.out], trivial⟩, by simp only [intOf]; omega⟩
    · have hge : ¬ (k : Int) < (n : Int) := by omega
      obtain rfl : k = n := by omega
      have hR32 : reg (b.take k) < 4294967296 := reg_lt _ (fun y hy => HC.out.2.2 y (List.mem_of_mem_take hy))
      obtain ⟨R, hR⟩ : ∃ R, reg (b.take k) = R := ⟨_, rfl⟩
      rw [hR] at hR32 ⊢
      have hf : R ^^^ 4294967295 = Crc.sum b := by rw [← hR, List.take_of_length_le (by have := HC.out.2.1; omega)]; rfl
      have hy := not_u32 hR32
      rw [hf] at hy
      clear hf hR32 hR
      go_wp2
      go_ret
      exact ⟨rfl, HW.out.2⟩
end Go.Proofs.YtnejnnfjbhpigaaDoor.Vit
