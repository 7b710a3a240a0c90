/- The contract of num.Hash, and that unlike numbers have unlike hashes. Condition: int64s. -/
import Derived.Test.YtcjmoobdoinbkaaBase
import Derived.Laws.BitsLemmas
namespace Go.Proofs.Ytcjmoobdoinbkaa
open Go.RowKit
set_option linter.unusedVariables false
/-- x, exclusive or x shifted down. -/
def xs (k x : Nat) : Nat := x ^^^ (x / 2 ^ k)
theorem xs_lt (k x : Nat) (h : x < 2 ^ 64) : xs k x < 2 ^ 64 := Nat.xor_lt_two_pow h (Nat.lt_of_le_of_lt (Nat.div_le_self _ _) h)
theorem xs_bit (k x i : Nat) : (xs k x).testBit i = ((x.testBit i) ^^ (x.testBit (k + i))) := by
  unfold xs
  rw [Nat.testBit_xor, ← Nat.shiftRight_eq_div_pow, Nat.testBit_shiftRight]
theorem xs_inj {k x y : Nat} (hk : 0 < k) (hx : x < 2 ^ 64) (hy : y < 2 ^ 64) (h : xs k x = xs k y) : x = y := by
  have key : ∀ n i, 64 - n ≤ i → x.testBit i = y.testBit i := by
    intro n
    induction n with
    | zero =>
      intro i hi
      rw [Nat.testBit_lt_two_pow (Nat.lt_of_lt_of_le hx (Nat.pow_le_pow_right (by decide) (by omega))), Nat.testBit_lt_two_pow (Nat.lt_of_lt_of_le hy (Nat.pow_le_pow_right (by decide) (by omega)))]
    | succ n ih =>
      intro i hi
      have h1 : (xs k x).testBit i = (xs k y).testBit i := by rw [h]
      rw [xs_bit, xs_bit, ih (k + i) (by omega)] at h1
      revert h1
      cases x.testBit i <;> cases y.testBit i <;> cases y.testBit (k + i) <;> simp
  exact Nat.eq_of_testBit_eq fun i => key 64 i (by omega)
theorem mul_inj {M M' x y : Nat} (hM : M * M' % 2 ^ 64 = 1) (hx : x < 2 ^ 64) (hy : y < 2 ^ 64) (h : x * M % 2 ^ 64 = y * M % 2 ^ 64) : x = y := by
  have back : ∀ z, z < 2 ^ 64 → (z * M % 2 ^ 64) * M' % 2 ^ 64 = z := fun z hz => by
    rw [Nat.mod_mul_mod, Nat.mul_assoc, Nat.mul_mod, hM, Nat.mul_one, Nat.mod_mod, Nat.mod_eq_of_lt hz]
  rw [← back x hx, ← back y hy, h]
def hashN (x : Nat) : Nat := xs 31 (xs 27 (xs 30 x * 13787848793156543929 % 2 ^ 64) * 10723151780598845931 % 2 ^ 64)
theorem hashN_inj {x y : Nat} (hx : x < 2 ^ 64) (hy : y < 2 ^ 64) (h : hashN x = hashN y) : x = y := by
  unfold hashN at h
  have h1 := xs_inj (by decide) (Nat.mod_lt _ (by decide)) (Nat.mod_lt _ (by decide)) h
  have h2 := mul_inj (M' := 3573116690164977347) (by decide) (xs_lt _ _ (Nat.mod_lt _ (by decide))) (xs_lt _ _ (Nat.mod_lt _ (by decide))) h1
  have h3 := xs_inj (by decide) (Nat.mod_lt _ (by decide)) (Nat.mod_lt _ (by decide)) h2
  have h4 := mul_inj (M' := 10871156337175269513) (by decide) (xs_lt _ _ hx) (xs_lt _ _ hy) h3
  exact xs_inj (by decide) hx hy h4
theorem xor_u64 (x y : Nat) (hx : x < 2 ^ 64) (hy : y < 2 ^ 64) : bits .xor .u64 (x : Int) (y : Int) = ((x ^^^ y : Nat) : Int) := by
  have hp : (2 : Nat) ^ IntKind.u64.bits = 2 ^ 64 := rfl
  simp only [bits, BitVec.ofInt_natCast, BitVec.toNat_xor, BitVec.toNat_ofNat, hp, Nat.mod_eq_of_lt hx, Nat.mod_eq_of_lt hy]
  have h := Nat.xor_lt_two_pow hx hy
  rw [u64_mod]
  omega
theorem xs_u64 (k x : Nat) (c : Int) (hc : c = ((2 ^ k : Nat) : Int)) (hx : x < 2 ^ 64) : bits .xor .u64 (x : Int) ((x : Int) / c) = (xs k x : Int) := by
  have e : (x : Int) / c = ((x / 2 ^ k : Nat) : Int) := by rw [hc, Int.natCast_ediv]
  rw [e, xor_u64 x _ hx (Nat.lt_of_le_of_lt (Nat.div_le_self _ _) hx)]
  rfl
theorem mul_u64 (x M : Nat) : IntKind.u64.wrap ((x : Int) * (M : Int)) = ((x * M % 2 ^ 64 : Nat) : Int) := by
  rw [u64_mod]; simp
theorem hash_any (a : Int) (w : World) : Calls Try.prog 37 #[.int .i64 a] w fun e w' => e = .returned (.int .u64 (hashN (a % 18446744073709551616).toNat : Int)) ∧ w = w' := by
  obtain ⟨x, hx⟩ : ∃ x : Nat, (a % 18446744073709551616).toNat = x := ⟨_, rfl⟩
  have hw : IntKind.u64.wrap a = (x : Int) := by rw [u64_mod]; omega
  have hxl : x < 2 ^ 64 := by omega
  rw [hx]
  have HX := Lib.hid hxl
  have HW := Lib.hid hw
  clear hxl hx hw
  go_enter Try.func37, Try.ntmps37
  go_wp2
  go_ret
  refine ⟨ret1 ?_, rfl⟩
  have h1 := mul_u64 (xs 30 x) 13787848793156543929
  have h3 := mul_u64 (xs 27 (xs 30 x * 13787848793156543929 % 2 ^ 64)) 10723151780598845931
  rw [HW.out, xs_u64 30 x _ (by decide) HX.out]
  rw [show ((13787848793156543929 : Nat) : Int) = 13787848793156543929 from rfl] at h1
  rw [show ((10723151780598845931 : Nat) : Int) = 10723151780598845931 from rfl] at h3
  rw [h1, xs_u64 27 _ _ (by decide) (Nat.mod_lt _ (by decide)), h3, xs_u64 31 _ _ (by decide) (Nat.mod_lt _ (by decide))]
  rfl
theorem hash_eq {a b : Int} (ha : I64 a) (hb : I64 b) : hashN (a % 18446744073709551616).toNat = hashN (b % 18446744073709551616).toNat ↔ a = b := by
  constructor
  · intro h
    have := hashN_inj (by omega) (by omega) h
    obtain ⟨a1, a2⟩ := ha
    obtain ⟨b1, b2⟩ := hb
    omega
  · rintro rfl; rfl
end Go.Proofs.Ytcjmoobdoinbkaa
