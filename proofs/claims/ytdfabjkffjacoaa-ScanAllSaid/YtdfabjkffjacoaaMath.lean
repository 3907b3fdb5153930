/- Plain lemmas on bytes: little-endian numbers and CRC-32C; no program. -/
import Derived.KernelRfl
namespace Go.Proofs.Ytdfabjkffjacoaa

/-! Little endian. -/
def le : Nat → Nat → List UInt8
  | 0, _ => []
  | k + 1, n => UInt8.ofNat (n % 256) :: le k (n / 256)

def num : List UInt8 → Nat
  | [] => 0
  | b :: l => b.toNat + 256 * num l

theorem le_length (k n : Nat) : (le k n).length = k := by
  induction k generalizing n with
  | zero => rfl
  | succ k ih => simp [le, ih]

theorem num_lt (l : List UInt8) : num l < 256 ^ l.length := by
  induction l with
  | nil => simp [num]
  | cons b l ih =>
    have hb := b.toNat_lt
    simp only [num, List.length_cons, Nat.pow_succ]
    omega

theorem num_le (k n : Nat) (h : n < 256 ^ k) : num (le k n) = n := by
  induction k generalizing n with
  | zero => simp at h; simp [le, num, h]
  | succ k ih =>
    have h2 : n / 256 < 256 ^ k := by
      rw [Nat.pow_succ] at h
      exact Nat.div_lt_of_lt_mul (by rw [Nat.mul_comm]; exact h)
    simp only [le, num, ih _ h2]
    have : (UInt8.ofNat (n % 256)).toNat = n % 256 := by
      simp [UInt8.toNat_ofNat']
    rw [this]
    omega

theorem le_num (l : List UInt8) : le l.length (num l) = l := by
  induction l with
  | nil => rfl
  | cons b l ih =>
    have hb := b.toNat_lt
    simp only [List.length_cons, le, num]
    rw [show (b.toNat + 256 * num l) / 256 = num l from by omega, ih]
    rw [show (b.toNat + 256 * num l) % 256 = b.toNat from by omega]
    simp

theorem le_inj {k a b : Nat} (ha : a < 256 ^ k) (hb : b < 256 ^ k) (h : le k a = le k b) : a = b := by
  rw [← num_le k a ha, ← num_le k b hb, h]

/-- byte i -/
theorem le_get (k n i : Nat) (h : i < k) : (le k n)[i]'(by rw [le_length]; exact h) = UInt8.ofNat (n / 256 ^ i % 256) := by
  induction k generalizing n i with
  | zero => omega
  | succ k ih =>
    cases i with
    | zero => simp [le]
    | succ i =>
      simp only [le, List.getElem_cons_succ]
      rw [ih _ _ (by omega), Nat.div_div_eq_div_mul, Nat.pow_succ, Nat.mul_comm 256]

theorem le_get? (k n i : Nat) (h : i < k) : (le k n)[i]? = some (UInt8.ofNat (n / 256 ^ i % 256)) := by
  rw [List.getElem?_eq_getElem (by rw [le_length]; exact h), le_get k n i h]

theorem le_succ (k n : Nat) : le (k + 1) n = le k n ++ [UInt8.ofNat (n / 256 ^ k % 256)] := by
  induction k generalizing n with
  | zero => simp [le]
  | succ k ih =>
    rw [le, ih]
    conv => rhs; rw [le]
    simp only [List.cons_append]
    rw [Nat.div_div_eq_div_mul, Nat.pow_succ, Nat.mul_comm 256]

theorem num_append (a b : List UInt8) : num (a ++ b) = num a + 256 ^ a.length * num b := by
  induction a with
  | nil => simp [num]
  | cons x a ih =>
    simp only [List.cons_append, num, ih, List.length_cons, Nat.pow_succ]
    rw [Nat.mul_add, Nat.mul_comm (256 ^ a.length) 256, Nat.mul_assoc]
    omega

theorem num_snoc (a : List UInt8) (b : UInt8) : num (a ++ [b]) = num a + 256 ^ a.length * b.toNat := by
  rw [num_append]; simp [num]

/-! CRC-32C. -/
def step1 (c : Nat) : Nat := if c % 2 = 1 then (c / 2) ^^^ 2197175160 else c / 2
def stepK : Nat → Nat → Nat
  | 0, c => c
  | k + 1, c => step1 (stepK k c)
def regs (c : Nat) (l : List UInt8) : Nat := l.foldl (fun c x => stepK 8 (c ^^^ x.toNat)) c
def more (s : Nat) (l : List UInt8) : Nat := regs (s ^^^ 4294967295) l ^^^ 4294967295
def csum (l : List UInt8) : Nat := more 0 l
def mask (s : Nat) : Nat := ((s / 2 ^ 15 ||| s * 2 ^ 17 % 2 ^ 32) + 2726488792) % 2 ^ 32

theorem step1_lt {c : Nat} (h : c < 4294967296) : step1 c < 4294967296 := by
  unfold step1
  split
  · exact Nat.xor_lt_two_pow (n := 32) (by omega) (by omega)
  · omega
theorem stepK_lt (k : Nat) {c : Nat} (h : c < 4294967296) : stepK k c < 4294967296 := by
  induction k with
  | zero => exact h
  | succ k ih => exact step1_lt ih
theorem xor_lt {a b : Nat} (ha : a < 4294967296) (hb : b < 4294967296) : a ^^^ b < 4294967296 := Nat.xor_lt_two_pow (n := 32) ha hb
theorem byte_lt (x : UInt8) : x.toNat < 4294967296 := by have := x.toNat_lt; omega
theorem regs_lt (l : List UInt8) {c : Nat} (h : c < 4294967296) : regs c l < 4294967296 := by
  induction l generalizing c with
  | nil => exact h
  | cons x l ih => exact ih (stepK_lt 8 (xor_lt h (byte_lt x)))
theorem more_lt (l : List UInt8) {c : Nat} (h : c < 4294967296) : more c l < 4294967296 :=
  xor_lt (regs_lt l (xor_lt h (by omega))) (by omega)
theorem csum_lt (l : List UInt8) : csum l < 4294967296 := more_lt l (by omega)
theorem mask_lt (s : Nat) : mask s < 4294967296 := Nat.mod_lt _ (by omega)
theorem regs_snoc (c : Nat) (l : List UInt8) (x : UInt8) : regs c (l ++ [x]) = stepK 8 (regs c l ^^^ x.toNat) := by
  simp [regs, List.foldl_append]

theorem step1_xor (a b : Nat) : step1 (a ^^^ b) = step1 a ^^^ step1 b := by
  unfold step1
  have hm : (a ^^^ b) % 2 = (a % 2) ^^^ (b % 2) := Nat.xor_mod_two_pow (n := 1)
  rw [hm, Nat.xor_div_two]
  by_cases ha : a % 2 = 1 <;> by_cases hb : b % 2 = 1
  · rw [ha, hb, if_neg (by decide), if_pos rfl, if_pos rfl]
    rw [Nat.xor_assoc, Nat.xor_comm 2197175160, Nat.xor_assoc, Nat.xor_self, Nat.xor_zero]
  · rw [ha, show b % 2 = 0 from by omega, if_pos (by decide), if_pos rfl, if_neg (by decide)]
    rw [Nat.xor_assoc, Nat.xor_comm (b / 2), Nat.xor_assoc]
  · rw [hb, show a % 2 = 0 from by omega, if_pos (by decide), if_neg (by decide), if_pos rfl, Nat.xor_assoc]
  · rw [show a % 2 = 0 from by omega, show b % 2 = 0 from by omega, if_neg (by decide), if_neg (by decide), if_neg (by decide)]
theorem stepK_xor (k a b : Nat) : stepK k (a ^^^ b) = stepK k a ^^^ stepK k b := by
  induction k with
  | zero => rfl
  | succ k ih => simp only [stepK, ih, step1_xor]
theorem stepK_shift (k h : Nat) : stepK k (2 ^ k * h) = h := by
  induction k generalizing h with
  | zero => simp [stepK]
  | succ k ih =>
    simp only [stepK]
    rw [show 2 ^ (k + 1) * h = 2 ^ k * (2 * h) from by rw [Nat.pow_succ, Nat.mul_assoc], ih]
    unfold step1
    rw [if_neg (by omega)]
    omega
theorem split_byte (c : Nat) : c = (2 ^ 8 * (c / 256)) ^^^ (c % 256) := by
  apply Nat.eq_of_testBit_eq
  intro i
  rw [Nat.testBit_xor, Nat.testBit_two_pow_mul, show (256 : Nat) = 2 ^ 8 from rfl, Nat.testBit_mod_two_pow, Nat.testBit_div_two_pow]
  by_cases h : 8 ≤ i
  · simp [h, show ¬ i < 8 from by omega]
  · simp [h, show i < 8 from by omega]
/-- what the table does -/
theorem step_table (c x : Nat) : stepK 8 (c ^^^ x) = stepK 8 ((c % 256) ^^^ x) ^^^ (c / 256) := by
  conv => lhs; rw [split_byte c]
  rw [Nat.xor_assoc, stepK_xor, stepK_shift, Nat.xor_comm]

end Go.Proofs.Ytdfabjkffjacoaa
