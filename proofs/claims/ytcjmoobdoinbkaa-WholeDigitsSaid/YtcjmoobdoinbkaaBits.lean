/- Bits of and, or, exclusive or, not, and the last six bits, as the walk spells them. No condition. -/
import Derived.Test.YtcjmoobdoinbkaaPlain
import Derived.WalkKit
namespace Go.Proofs.Ytcjmoobdoinbkaa
open Go.RowKit
theorem ibit_nat (n i : Nat) : ibit (n : Int) i = if n.testBit i then 1 else 0 := by
  unfold ibit
  rw [Nat.testBit_eq_decide_div_mod_eq]
  have : ((n : Int) / 2 ^ i % 2) = ((n / 2 ^ i % 2 : Nat) : Int) := by simp
  rw [this]
  have : n / 2 ^ i % 2 = 0 ∨ n / 2 ^ i % 2 = 1 := by omega
  rcases this with e | e <;> rw [e] <;> simp
theorem lsb_ofInt (a : Int) {i : Nat} (hi : i < 64) : (if (BitVec.ofInt 64 a).getLsbD i then (1 : Int) else 0) = ibit a i := by
  rw [← BitVec.testBit_toNat, ← ibit_nat, BitVec.toNat_ofInt, Int.toNat_of_nonneg (Int.emod_nonneg _ (by decide))]
  exact ibit_mod a hi
theorem wrap_i64 (n : Int) : IntKind.i64.wrap n = wrap64 n := IntWalk.i64_left n
theorem ibit_back (r : BitVec 64) {i : Nat} (hi : i < 64) : ibit (IntKind.i64.wrap (r.toNat : Int)) i = if r.getLsbD i then 1 else 0 := by
  rw [wrap_i64, ibit_wrap _ hi, ibit_nat, BitVec.testBit_toNat]
theorem ibit_and (a b : Int) {i : Nat} (hi : i < 64) : ibit (bits .and .i64 a b) i = ibit a i * ibit b i := by
  show ibit (IntKind.i64.wrap ((BitVec.ofInt 64 a &&& BitVec.ofInt 64 b).toNat : Int)) i = _
  rw [ibit_back _ hi, ← lsb_ofInt a hi, ← lsb_ofInt b hi, BitVec.getLsbD_and]
  cases (BitVec.ofInt 64 a).getLsbD i <;> cases (BitVec.ofInt 64 b).getLsbD i <;> rfl
theorem ibit_or (a b : Int) {i : Nat} (hi : i < 64) : ibit (bits .or .i64 a b) i = max (ibit a i) (ibit b i) := by
  show ibit (IntKind.i64.wrap ((BitVec.ofInt 64 a ||| BitVec.ofInt 64 b).toNat : Int)) i = _
  rw [ibit_back _ hi, ← lsb_ofInt a hi, ← lsb_ofInt b hi, BitVec.getLsbD_or]
  cases (BitVec.ofInt 64 a).getLsbD i <;> cases (BitVec.ofInt 64 b).getLsbD i <;> rfl
theorem ibit_xor (a b : Int) {i : Nat} (hi : i < 64) : ibit (bits .xor .i64 a b) i = (ibit a i + ibit b i) % 2 := by
  show ibit (IntKind.i64.wrap ((BitVec.ofInt 64 a ^^^ BitVec.ofInt 64 b).toNat : Int)) i = _
  rw [ibit_back _ hi, ← lsb_ofInt a hi, ← lsb_ofInt b hi, BitVec.getLsbD_xor]
  cases (BitVec.ofInt 64 a).getLsbD i <;> cases (BitVec.ofInt 64 b).getLsbD i <;> rfl
theorem bits_bd (o : BinOp) (a b : Int) : -9223372036854775808 ≤ bits o .i64 a b ∧ bits o .i64 a b ≤ 9223372036854775807 := by
  have : ∃ n, bits o .i64 a b = IntKind.i64.wrap n := by unfold bits; split <;> exact ⟨_, rfl⟩
  obtain ⟨n, h⟩ := this
  rw [h, wrap_i64]
  exact wrap64_bd n
theorem wrap64_id {a : Int} (h : -9223372036854775808 ≤ a ∧ a ≤ 9223372036854775807) : wrap64 a = a := IntWalk.wrap64_in a h
theorem bits_not (a : Int) : bits .xor .i64 (-1) a = wrap64 (-a - 1) := by
  rw [← wrap64_id (bits_bd .xor (-1) a)]
  apply of_bits
  intro i hi
  rw [ibit_xor _ _ hi]
  have h1 : ibit (-1) i = 1 := by
    unfold ibit
    have hp := pow_pos' i
    have : (-1 : Int) / 2 ^ i = -1 := by rw [Int.ediv_eq_iff_of_pos hp]; omega
    rw [this]; rfl
  have h2 : ibit (-a - 1) i = 1 - ibit a i := by
    unfold ibit
    have hp := pow_pos' i
    have : (-a - 1) / 2 ^ i = - (a / 2 ^ i) - 1 := by
      rw [Int.ediv_eq_iff_of_pos hp]
      have h3 := Int.emod_add_mul_ediv a (2 ^ i)
      have h4 := Int.emod_nonneg a (b := 2 ^ i) (by omega)
      have h5 := Int.emod_lt_of_pos a hp
      have h6 : (-(a / 2 ^ i) - 1) * 2 ^ i = - (2 ^ i * (a / 2 ^ i)) - 2 ^ i := by rw [Int.sub_mul, Int.neg_mul, Int.mul_comm (a / 2 ^ i)]; omega
      rw [h6]
      have h7 : (-(a / 2 ^ i) - 1 + 1) * 2 ^ i = - (2 ^ i * (a / 2 ^ i)) := by rw [Int.sub_add_cancel, Int.neg_mul, Int.mul_comm]
      try rw [h7]
      omega
    rw [this]; omega
  rw [h1, h2]
  have := ibit_01 a i
  omega
theorem bits_63 (a : Int) : IntKind.u64.wrap (bits .and .i64 a 63) = a % 64 := by
  have e : bits .and .i64 a 63 = a % 64 := by
    rw [← wrap64_id (bits_bd .and a 63), ← wrap64_id (a := a % 64) (by omega)]
    apply of_bits
    intro i hi
    rw [ibit_and _ _ hi]
    by_cases h6 : i < 6
    · have h1 : ibit 63 i = 1 := by
        have : i = 0 ∨ i = 1 ∨ i = 2 ∨ i = 3 ∨ i = 4 ∨ i = 5 := by omega
        rcases this with rfl | rfl | rfl | rfl | rfl | rfl <;> decide
      have h2 : ibit (a % 64) i = ibit a i := by
        have : i = 0 ∨ i = 1 ∨ i = 2 ∨ i = 3 ∨ i = 4 ∨ i = 5 := by omega
        unfold ibit
        rcases this with rfl | rfl | rfl | rfl | rfl | rfl <;> simp <;> omega
      rw [h1, h2]; omega
    · obtain ⟨d, rfl⟩ : ∃ d, i = 6 + d := ⟨i - 6, by omega⟩
      have h0 : ∀ x : Int, 0 ≤ x → x < 64 → ibit x (6 + d) = 0 := fun x h0 h1 => by
        unfold ibit
        rw [div_pow_add, show (2 : Int) ^ 6 = 64 from by decide, Int.ediv_eq_zero_of_lt h0 h1]; simp
      rw [h0 63 (by omega) (by omega), h0 (a % 64) (by omega) (by omega)]; omega
  rw [e, IntWalk.u64_in _ (by omega)]
end Go.Proofs.Ytcjmoobdoinbkaa
