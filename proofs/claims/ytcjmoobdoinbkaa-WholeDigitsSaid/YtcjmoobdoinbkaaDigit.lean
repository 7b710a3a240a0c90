/- The contracts of num.digit, strings.CutPrefix at a minus, bits.Mul64 at a base, bits.Add64 without a carry. -/
import Derived.Test.YtcjmoobdoinbkaaBase
import Derived.Laws.Externs
import Derived.Lib.Strings
namespace Go.Proofs.Ytcjmoobdoinbkaa
open Go.RowKit
def alpha : ByteArray := ⟨#[48, 49, 50, 51, 52, 53, 54, 55, 56, 57, 97, 98, 99, 100, 101, 102, 103, 104, 105, 106, 107, 108, 109, 110, 111, 112, 113, 114, 115, 116, 117, 118, 119, 120, 121, 122]⟩
/-- A byte as a digit; -1: it is none. -/
def dig (c : Int) : Int := if 48 ≤ c ∧ c ≤ 57 then c - 48 else if 97 ≤ c ∧ c ≤ 122 then c - 87 else if 65 ≤ c ∧ c ≤ 90 then c - 55 else -1
/-- The same without the great letters. -/
def digl (c : Int) : Int := if 48 ≤ c ∧ c ≤ 57 then c - 48 else if 97 ≤ c ∧ c ≤ 122 then c - 87 else -1
theorem first_alpha : ∀ n : Fin 256, firstIdx alpha (n.val.toUInt8) = digl (n.val : Int) := by decide +kernel
theorem idx_any (c : Int) (h : 0 ≤ c ∧ c ≤ 255) (w : World) : (callFunc 70 #[.string alpha, .int .u8 c]).run Try.prog w = .ok (.value (.int .i64 (digl c))) w := by
  rw [run_callFunc_extern (P := Try.prog) (e := Extern.BytealgIndexByte.indexByte) Try.func70 (by kernel_rfl) (by kernel_rfl) (by kernel_rfl) (by kernel_rfl), run_indexByte_string]
  have := first_alpha ⟨c.toNat, by omega⟩
  simp only at this
  rw [this, show ((c.toNat : Nat) : Int) = c from by omega]
  rfl
theorem dig_lo (c : Int) : -1 ≤ dig c ∧ dig c ≤ 35 := by unfold dig; split; omega; split; omega; split <;> omega
theorem digit_any (c : Int) (w : World) (h : 0 ≤ c ∧ c ≤ 255) : Calls Try.prog 53 #[.int .u8 c] w fun e w' => e = .returned (.int .i64 (dig c)) ∧ w = w' := by
  have h0 : 0 ≤ c := h.1
  have h9 : c ≤ 255 := h.2
  by_cases h1 : 65 ≤ c ∧ c ≤ 90
  · obtain ⟨h2, h3⟩ := h1
    have hi := idx_any (c + 32) (by omega)
    have hr : digl (c + 32) = dig c := by
      unfold digl dig
      rw [if_neg (by omega), if_pos (by omega), if_neg (by omega), if_neg (by omega), if_pos (by omega)]; omega
    rw [← hr]
    clear hr
    unfold alpha at hi
    have d1 : decide (65 ≤ c) = true := by simpa using h2
    have d2 : decide (c ≤ 90) = true := by simpa using h3
    go_enter Try.func53, Try.ntmps53
    go_wp2
    go_ret
    exact ⟨rfl, rfl⟩
  · have hi := idx_any c h
    have hr : digl c = dig c := by
      unfold digl dig
      by_cases a1 : 48 ≤ c ∧ c ≤ 57
      · rw [if_pos a1, if_pos a1]
      · rw [if_neg a1, if_neg a1]
        by_cases a2 : 97 ≤ c ∧ c ≤ 122
        · rw [if_pos a2, if_pos a2]
        · rw [if_neg a2, if_neg a2, if_neg h1]
    rw [← hr]
    clear hr
    unfold alpha at hi
    by_cases h2 : 65 ≤ c
    · have d1 : decide (65 ≤ c) = true := by simpa using h2
      have d2 : decide (c ≤ 90) = false := by simp; omega
      clear h1
      go_enter Try.func53, Try.ntmps53
      go_wp2
      go_ret
      exact ⟨rfl, rfl⟩
    · have d1 : decide (65 ≤ c) = false := by simp; omega
      clear h1
      go_enter Try.func53, Try.ntmps53
      go_wp2
      go_ret
      exact ⟨rfl, rfl⟩
theorem add64_any (x y : Int) (w : World) (hx : 0 ≤ x) (hy : 0 ≤ y) : (callFunc 55 #[.int .u64 x, .int .u64 y, .int .u64 0]).run Try.prog w = .ok (.value (.tuple #[.int .u64 ((x + y) % 18446744073709551616), .int .u64 ((x + y) / 18446744073709551616)])) w := by
  rw [run_callFunc_extern (P := Try.prog) (e := add64Entry) Try.func55 (by kernel_rfl) (by kernel_rfl) (by kernel_rfl) (by kernel_rfl), run_add64 x y 0 hx hy (by omega) (by omega)]
  simp only [Int.add_zero]
  rfl
theorem mul_split (a b : Int) : a * b = 4294967296 * (a / 4294967296 * b) + a % 4294967296 * b := by
  have h := Int.emod_add_mul_ediv a 4294967296
  rw [← Int.mul_assoc, ← Int.add_mul]
  congr 1
  omega
theorem u64_wrap_in (n : Int) (h₀ : 0 ≤ n) (h₁ : n < 2 ^ 64) : IntKind.u64.wrap n = n := by rw [u64_mod]; omega
theorem mask32 (x : Int) (h0 : 0 ≤ x) (h1 : x < 18446744073709551616) : bits .and .u64 x 4294967295 = x % 4294967296 := bits_mask .u64 64 (by decide) u64_wrap_in 32 (by decide) x h0 h1
theorem mul64_high (a b : Int) (ha : 0 ≤ a ∧ a ≤ 18446744073709551615) (hb : 2 ≤ b ∧ b ≤ 36) : IntKind.u64.wrap
                            (IntKind.u64.wrap
                                (IntKind.u64.wrap (a / 4294967296 * (b / 4294967296)) +
                                  IntKind.u64.wrap
                                      (IntKind.u64.wrap (a / 4294967296 * bits BinOp.and IntKind.u64 b 4294967295) +
                                        IntKind.u64.wrap
                                            (bits BinOp.and IntKind.u64 a 4294967295 *
                                              bits BinOp.and IntKind.u64 b 4294967295) /
                                          4294967296) /
                                    4294967296) +
                              IntKind.u64.wrap
                                  (bits BinOp.and IntKind.u64
                                      (IntKind.u64.wrap
                                        (IntKind.u64.wrap (a / 4294967296 * bits BinOp.and IntKind.u64 b 4294967295) +
                                          IntKind.u64.wrap
                                              (bits BinOp.and IntKind.u64 a 4294967295 *
                                                bits BinOp.and IntKind.u64 b 4294967295) /
                                            4294967296))
                                      4294967295 +
                                    IntKind.u64.wrap (bits BinOp.and IntKind.u64 a 4294967295 * (b / 4294967296))) /
                                4294967296) = a * b / 18446744073709551616 := by
  have b0 : b / 4294967296 = 0 := by omega
  have b1 : bits .and .u64 b 4294967295 = b := by rw [mask32 b (by omega) (by omega)]; omega
  have a1 := mask32 a ha.1 (by omega)
  have hs := mul_split a b
  have h1 : 0 ≤ a / 4294967296 * b ∧ a / 4294967296 * b ≤ 4294967295 * 36 := by
    constructor
    · exact Int.mul_nonneg (by omega) (by omega)
    · exact Int.mul_le_mul (by omega) (by omega) (by omega) (by omega)
  have h2 : 0 ≤ a % 4294967296 * b ∧ a % 4294967296 * b ≤ 4294967295 * 36 := by
    constructor
    · exact Int.mul_nonneg (by omega) (by omega)
    · exact Int.mul_le_mul (by omega) (by omega) (by omega) (by omega)
  rw [b0, b1, a1, hs]
  generalize a / 4294967296 * b = p at *
  generalize a % 4294967296 * b = q at *
  simp only [Int.mul_zero, u64_mod]
  rw [mask32 _ (by omega) (by omega)]
  omega
theorem mul64_any (a b : Int) (w : World) (ha : 0 ≤ a ∧ a ≤ 18446744073709551615) (hb : 2 ≤ b ∧ b ≤ 36) : Calls Try.prog 54 #[.int .u64 a, .int .u64 b] w fun e w' => e = .returned (.tuple #[.int .u64 (a * b / 18446744073709551616), .int .u64 (a * b % 18446744073709551616)]) ∧ w = w' := by
  obtain ⟨a1, a2⟩ := ha
  obtain ⟨b1, b2⟩ := hb
  go_enter Try.func54, Try.ntmps54
  go_wp2
  go_ret2
  exact ⟨ret2 (mul64_high a b ⟨a1, a2⟩ ⟨b1, b2⟩) (u64_mod _), rfl⟩
/-- The bytes of a text. -/
abbrev bys (s : ByteArray) : List UInt8 := s.data.toList
theorem head_cut (s : ByteArray) (h : 0 < s.size) : ((s.extract 0 1).toList == [45]) = decide ((bys s).head? = some 45) := by
  rw [Lib.extract_toList]
  have hl : 0 < (bys s).length := by simpa using h
  show (((bys s).drop 0).take 1 == [45]) = _
  rcases hs : bys s with _ | ⟨c, l⟩
  · rw [hs] at hl; simp at hl
  · simp [BEq.beq, List.beq]
theorem cut_yes (s : ByteArray) (w : World) (h : (bys s).head? = some 45) (hs : s.size ≤ 9223372036854775807) : Calls Try.prog 52 #[.string s, .string ⟨#[45]⟩] w fun e w' => e = .returned (.tuple #[.string (s.extract 1 s.size), .bool true]) ∧ w = w' := by
  have h0 : 0 < s.size := by
    rcases hs : bys s with _ | ⟨c, l⟩
    · rw [hs] at h; simp at h
    · have : (bys s).length = s.size := by simp
      rw [hs] at this; simp at this; omega
  have hc : ((s.extract 0 1).toList == [45]) = true := by rw [head_cut s h0]; simpa using h
  have h1 : decide (1 ≤ (s.size : Int)) = true := by simp; omega
  have h2 : (1 : Int) ≤ (s.size : Int) := by omega
  clear h
  go_enter Try.func52, Try.ntmps52
  go_wp2
  go_ret2
  exact ⟨rfl, rfl⟩
theorem cut_no (s : ByteArray) (w : World) (h : (bys s).head? ≠ some 45) (hs : s.size ≤ 9223372036854775807) : Calls Try.prog 52 #[.string s, .string ⟨#[45]⟩] w fun e w' => e = .returned (.tuple #[.string s, .bool false]) ∧ w = w' := by
  by_cases h0 : 0 < s.size
  · have hc : ((s.extract 0 1).toList == [45]) = false := by rw [head_cut s h0]; simpa using h
    have h1 : decide (1 ≤ (s.size : Int)) = true := by simp; omega
    have h2 : (1 : Int) ≤ (s.size : Int) := by omega
    clear h
    go_enter Try.func52, Try.ntmps52
    go_wp2
    go_ret2
    exact ⟨rfl, rfl⟩
  · have h1 : decide (1 ≤ (s.size : Int)) = false := by simp; omega
    clear h
    go_enter Try.func52, Try.ntmps52
    go_wp2
    go_ret2
    exact ⟨rfl, rfl⟩
end Go.Proofs.Ytcjmoobdoinbkaa
