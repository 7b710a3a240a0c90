/- Plain facts on the bits of whole numbers, and sums of bits; no program. No condition. -/
import Derived.IntWalk
namespace Go.Proofs.Ytcjmoobdoinbkaa
open Go.RowKit
/-- Bit i of a whole number (of a negative one too: as in two's complement). -/
def ibit (a : Int) (i : Nat) : Int := a / 2 ^ i % 2
/-- The sum of the first n bits. -/
def bsum (f : Nat → Int) : Nat → Int
  | 0 => 0
  | n + 1 => bsum f n + f n * 2 ^ n
theorem pow_pos' (n : Nat) : (0 : Int) < 2 ^ n := Int.pow_pos (by decide)
theorem ibit_01 (a : Int) (i : Nat) : ibit a i = 0 ∨ ibit a i = 1 := by unfold ibit; omega
theorem ibit_lo (a : Int) (i : Nat) : 0 ≤ ibit a i ∧ ibit a i ≤ 1 := by unfold ibit; omega
theorem div_pow_succ (a : Int) (n : Nat) : a / 2 ^ (n + 1) = a / 2 ^ n / 2 := by
  rw [Int.pow_succ, Int.ediv_ediv_of_nonneg (Int.le_of_lt (pow_pos' n))]
theorem div_pow_add (a : Int) (n m : Nat) : a / 2 ^ (n + m) = a / 2 ^ n / 2 ^ m := by
  rw [Int.pow_add, Int.ediv_ediv_of_nonneg (Int.le_of_lt (pow_pos' n))]
theorem bsum_bits (a : Int) (n : Nat) : bsum (ibit a) n = a % 2 ^ n := by
  induction n with
  | zero => simp [bsum, Int.emod_one]
  | succ n ih =>
    unfold bsum
    rw [ih]
    have h1 := Int.emod_add_mul_ediv a (2 ^ n)
    have h2 := Int.emod_add_mul_ediv a (2 ^ (n + 1))
    have h3 : a / 2 ^ n = 2 * (a / 2 ^ n / 2) + ibit a n := by unfold ibit; omega
    rw [div_pow_succ] at h2
    rw [Int.pow_succ] at h2 ⊢
    have h4 : 2 ^ n * (a / 2 ^ n) = 2 ^ n * 2 * (a / 2 ^ n / 2) + ibit a n * 2 ^ n := by
      rw [h3]
      have : (2 * (a / 2 ^ n / 2) + ibit a n) / 2 = a / 2 ^ n / 2 := by have := ibit_lo a n; omega
      rw [this, Int.mul_add, Int.mul_comm (2 ^ n) (ibit a n), Int.mul_assoc]
    omega
theorem bsum_congr {f g : Nat → Int} {n : Nat} (h : ∀ i, i < n → f i = g i) : bsum f n = bsum g n := by
  induction n with
  | zero => rfl
  | succ n ih => unfold bsum; rw [ih (fun i hi => h i (by omega)), h n (by omega)]
theorem bsum_bound {f : Nat → Int} {n : Nat} (h : ∀ i, i < n → 0 ≤ f i ∧ f i ≤ 1) : 0 ≤ bsum f n ∧ bsum f n < 2 ^ n := by
  induction n with
  | zero => simp [bsum]
  | succ n ih =>
    have h1 := ih (fun i hi => h i (by omega))
    have h2 := h n (by omega)
    unfold bsum
    have hp := pow_pos' n
    rw [Int.pow_succ]
    have : f n = 0 ∨ f n = 1 := by omega
    rcases this with e | e <;> rw [e] <;> omega
/-- Added bit by bit, with a carry. -/
def carry (x y : Nat → Int) : Nat → Int
  | 0 => 0
  | n + 1 => (x n + y n + carry x y n) / 2
def addb (x y : Nat → Int) (n : Nat) : Int := (x n + y n + carry x y n) % 2
theorem carry_lo {x y : Nat → Int} (hx : ∀ i, 0 ≤ x i ∧ x i ≤ 1) (hy : ∀ i, 0 ≤ y i ∧ y i ≤ 1) (n : Nat) : 0 ≤ carry x y n ∧ carry x y n ≤ 1 := by
  induction n with
  | zero => simp [carry]
  | succ n ih => have := hx n; have := hy n; unfold carry; omega
theorem addb_sum (x y : Nat → Int) (n : Nat) : bsum (addb x y) n + carry x y n * 2 ^ n = bsum x n + bsum y n := by
  induction n with
  | zero => simp [bsum, carry]
  | succ n ih =>
    unfold bsum
    have h : x n + y n + carry x y n = 2 * carry x y (n + 1) + addb x y n := by
      show _ = 2 * ((x n + y n + carry x y n) / 2) + (x n + y n + carry x y n) % 2
      omega
    rw [Int.pow_succ]
    have e : x n * 2 ^ n + y n * 2 ^ n + carry x y n * 2 ^ n = carry x y (n + 1) * (2 ^ n * 2) + addb x y n * 2 ^ n := by
      rw [← Int.add_mul, ← Int.add_mul, h, Int.add_mul]
      congr 1
      rw [Int.mul_comm 2 (carry x y (n + 1)), Int.mul_assoc, Int.mul_comm 2]
    omega
theorem wrap64_emod (a : Int) : wrap64 (a % 18446744073709551616) = wrap64 a := by unfold wrap64; omega
theorem wrap64_congr {a b : Int} (h : a % 18446744073709551616 = b % 18446744073709551616) : wrap64 a = wrap64 b := by rw [← wrap64_emod a, h, wrap64_emod]
theorem wrap64_mod (a : Int) : wrap64 a % 18446744073709551616 = a % 18446744073709551616 := by unfold wrap64; omega
theorem wrap64_bd (a : Int) : -9223372036854775808 ≤ wrap64 a ∧ wrap64 a ≤ 9223372036854775807 := by unfold wrap64; omega
theorem pow64 : (2 : Int) ^ 64 = 18446744073709551616 := by decide
theorem addb_wrap (a b : Int) : wrap64 (bsum (addb (ibit a) (ibit b)) 64) = wrap64 (a + b) := by
  have h := addb_sum (ibit a) (ibit b) 64
  rw [bsum_bits, bsum_bits, pow64] at h
  apply wrap64_congr
  omega
theorem bsum_wrap (a : Int) : wrap64 (bsum (ibit a) 64) = wrap64 a := by
  rw [bsum_bits, pow64, wrap64_emod]
/-- Each bit turned. -/
theorem notb_sum (a : Int) (n : Nat) : bsum (fun i => 1 - ibit a i) n + bsum (ibit a) n = 2 ^ n - 1 := by
  induction n with
  | zero => simp [bsum]
  | succ n ih =>
    unfold bsum
    rw [Int.pow_succ, Int.sub_mul]
    omega
theorem notb_wrap (a : Int) : wrap64 (bsum (fun i => 1 - ibit a i) 64) = wrap64 (-a - 1) := by
  have h := notb_sum a 64
  rw [bsum_bits, pow64] at h
  apply wrap64_congr
  omega
theorem wrap64_add_l (a b : Int) : wrap64 (wrap64 a + b) = wrap64 (a + b) := by unfold wrap64; omega
theorem wrap64_add_r (a b : Int) : wrap64 (a + wrap64 b) = wrap64 (a + b) := by unfold wrap64; omega
theorem wrap64_wrap (a : Int) : wrap64 (wrap64 a) = wrap64 a := by unfold wrap64; omega
theorem wrap64_neg (a : Int) : wrap64 (-wrap64 a) = wrap64 (-a) := by unfold wrap64; omega
theorem wrap64_mul_l (a b : Int) : wrap64 (wrap64 a * b) = wrap64 (a * b) := by
  apply wrap64_congr
  rw [Int.mul_emod, wrap64_mod, ← Int.mul_emod]
theorem wrap64_mul_r (a b : Int) : wrap64 (a * wrap64 b) = wrap64 (a * b) := by rw [Int.mul_comm, wrap64_mul_l, Int.mul_comm]
/-- Multiplied bit by bit: one round. -/
theorem mul_round (a u : Int) (i : Nat) : a * (u / 2 ^ i) = a * (u / 2 ^ (i + 1)) + a * (u / 2 ^ (i + 1)) + (if ibit u i = 1 then a else 0) := by
  rw [div_pow_succ]
  have h3 : u / 2 ^ i = 2 * (u / 2 ^ i / 2) + ibit u i := by unfold ibit; omega
  have h4 : a * (u / 2 ^ i) = a * (2 * (u / 2 ^ i / 2)) + a * ibit u i := by rw [← Int.mul_add, ← h3]
  have h5 : a * (2 * (u / 2 ^ i / 2)) = a * (u / 2 ^ i / 2) + a * (u / 2 ^ i / 2) := by rw [← Int.mul_add]; congr 1; omega
  rw [h4, h5]
  rcases ibit_01 u i with e | e <;> rw [e] <;> simp
/-- Bits of a number cut to 64 bits. -/
theorem ibit_mod (a : Int) {i : Nat} (hi : i < 64) : ibit (a % 18446744073709551616) i = ibit a i := by
  unfold ibit
  have e : (18446744073709551616 : Int) = 2 ^ i * (2 * 2 ^ (63 - i)) := by
    rw [show (2 : Int) * 2 ^ (63 - i) = 2 ^ (63 - i + 1) from by rw [Int.pow_succ, Int.mul_comm], ← Int.pow_add, show i + (63 - i + 1) = 64 from by omega]; decide
  have h1 := Int.emod_add_mul_ediv a 18446744073709551616
  generalize hq : a / 18446744073709551616 = q at *
  generalize a % 18446744073709551616 = r at *
  rw [← h1, e]
  have h2 : r + 2 ^ i * (2 * 2 ^ (63 - i)) * q = r + 2 ^ i * (2 * (2 ^ (63 - i) * q)) := by rw [Int.mul_assoc, Int.mul_assoc 2]
  rw [h2, Int.add_mul_ediv_left _ _ (by have := pow_pos' i; omega)]
  omega
theorem ibit_wrap (a : Int) {i : Nat} (hi : i < 64) : ibit (wrap64 a) i = ibit a i := by
  rw [← ibit_mod (wrap64 a) hi, wrap64_mod, ibit_mod a hi]
theorem ibit_shr (a : Int) (k i : Nat) : ibit (a / 2 ^ k) i = ibit a (k + i) := by unfold ibit; rw [div_pow_add]
theorem ibit_shl (a : Int) (k i : Nat) : ibit (a * 2 ^ k) i = if i < k then 0 else ibit a (i - k) := by
  split
  · rename_i h
    obtain ⟨d, rfl⟩ : ∃ d, k = i + (d + 1) := ⟨k - i - 1, by omega⟩
    unfold ibit
    rw [Int.pow_add, Int.pow_succ, ← Int.mul_assoc, Int.mul_comm a, Int.mul_assoc, Int.mul_ediv_cancel_left _ (by have := pow_pos' i; omega), ← Int.mul_assoc]
    omega
  · rename_i h
    obtain ⟨d, rfl⟩ : ∃ d, i = k + d := ⟨i - k, by omega⟩
    unfold ibit
    rw [div_pow_add, Int.mul_ediv_cancel _ (by have := pow_pos' k; omega)]
    congr 2
    rw [show k + d - k = d from by omega]
theorem ibit_high (a : Int) (h : -9223372036854775808 ≤ a ∧ a ≤ 9223372036854775807) {i : Nat} (hi : 63 ≤ i) : ibit a i = ibit a 63 := by
  obtain ⟨d, rfl⟩ : ∃ d, i = 63 + d := ⟨i - 63, by omega⟩
  unfold ibit
  rw [div_pow_add, show (2 : Int) ^ 63 = 9223372036854775808 from by decide]
  have : a / 9223372036854775808 = 0 ∨ a / 9223372036854775808 = -1 := by omega
  rcases this with e | e
  · rw [e]; simp
  · rw [e]
    have hp := pow_pos' d
    have : (-1 : Int) / 2 ^ d = -1 := by
      rw [Int.ediv_eq_iff_of_pos hp]; omega
    rw [this]
theorem ibit_big (a : Int) (h0 : 0 ≤ a) (h : a < 18446744073709551616) {i : Nat} (hi : 64 ≤ i) : ibit a i = 0 := by
  obtain ⟨d, rfl⟩ : ∃ d, i = 64 + d := ⟨i - 64, by omega⟩
  unfold ibit
  rw [div_pow_add, pow64, Int.ediv_eq_zero_of_lt h0 h]
  simp
/-- A number is what its bits tell. -/
theorem of_bits {a b : Int} (h : ∀ i, i < 64 → ibit a i = ibit b i) : wrap64 a = wrap64 b := by
  rw [← bsum_wrap a, ← bsum_wrap b, bsum_congr h]
end Go.Proofs.Ytcjmoobdoinbkaa
