/- The contracts of num's small functions: Add to Logical, Compare, Abs, magnitude, Div, Mod. Conditions: each number is an int64. -/
import Derived.Test.YtcjmoobdoinbkaaLib
import Derived.Test.YtcjmoobdoinbkaaBits
import Derived.Outline
namespace Go.Proofs.Ytcjmoobdoinbkaa
open Go.RowKit
/-- An int64. -/
def I64 (a : Int) : Prop := -9223372036854775808 ≤ a ∧ a ≤ 9223372036854775807
theorem ret1 {k : IntKind} {a b : Int} (h : a = b) : Ending.returned (.int k a) = .returned (.int k b) := by rw [h]
theorem add_any (a b : Int) (w : World) : Calls Try.prog 22 #[.int .i64 a, .int .i64 b] w fun e w' => e = .returned (.int .i64 (wrap64 (a + b))) ∧ w = w' := by
  go_enter Try.func22, Try.ntmps22
  go_wp2
  go_ret
  exact ⟨rfl, rfl⟩
theorem mul_any (a b : Int) (w : World) : Calls Try.prog 23 #[.int .i64 a, .int .i64 b] w fun e w' => e = .returned (.int .i64 (wrap64 (a * b))) ∧ w = w' := by
  go_enter Try.func23, Try.ntmps23
  go_wp2
  go_ret
  exact ⟨rfl, rfl⟩
theorem neg_any (a : Int) (w : World) : Calls Try.prog 24 #[.int .i64 a] w fun e w' => e = .returned (.int .i64 (wrap64 (-a))) ∧ w = w' := by
  go_enter Try.func24, Try.ntmps24
  go_wp2
  go_ret
  exact ⟨rfl, rfl⟩
theorem sub_any (a b : Int) (w : World) : Calls Try.prog 25 #[.int .i64 a, .int .i64 b] w fun e w' => e = .returned (.int .i64 (wrap64 (a - b))) ∧ w = w' := by
  go_enter Try.func25, Try.ntmps25
  go_wp2
  go_ret
  exact ⟨rfl, rfl⟩
theorem not_any (a : Int) (w : World) : Calls Try.prog 26 #[.int .i64 a] w fun e w' => e = .returned (.int .i64 (wrap64 (-a - 1))) ∧ w = w' := by
  go_enter Try.func26, Try.ntmps26
  go_wp2
  go_ret
  exact ⟨ret1 (bits_not a), rfl⟩
theorem and_any (a b : Int) (w : World) : Calls Try.prog 29 #[.int .i64 a, .int .i64 b] w fun e w' => e = .returned (.int .i64 (bits .and .i64 a b)) ∧ w = w' := by
  go_enter Try.func29, Try.ntmps29
  go_wp2
  go_ret
  exact ⟨rfl, rfl⟩
theorem or_any (a b : Int) (w : World) : Calls Try.prog 30 #[.int .i64 a, .int .i64 b] w fun e w' => e = .returned (.int .i64 (bits .or .i64 a b)) ∧ w = w' := by
  go_enter Try.func30, Try.ntmps30
  go_wp2
  go_ret
  exact ⟨rfl, rfl⟩
theorem xor_any (a b : Int) (w : World) : Calls Try.prog 31 #[.int .i64 a, .int .i64 b] w fun e w' => e = .returned (.int .i64 (bits .xor .i64 a b)) ∧ w = w' := by
  go_enter Try.func31, Try.ntmps31
  go_wp2
  go_ret
  exact ⟨rfl, rfl⟩
theorem count_min (b : Int) : min (IntKind.u64.wrap (bits .and .i64 b 63)).toNat 64 = (b % 64).toNat := by rw [bits_63]; omega
theorem left_any (a b : Int) (w : World) : Calls Try.prog 32 #[.int .i64 a, .int .i64 b] w fun e w' => e = .returned (.int .i64 (wrap64 (a * 2 ^ (b % 64).toNat))) ∧ w = w' := by
  go_enter Try.func32, Try.ntmps32
  go_wp2
  go_ret
  exact ⟨ret1 (by rw [count_min]), rfl⟩
theorem right_any (a b : Int) (w : World) : Calls Try.prog 34 #[.int .i64 a, .int .i64 b] w fun e w' => e = .returned (.int .i64 (a / 2 ^ (b % 64).toNat)) ∧ w = w' := by
  go_enter Try.func34, Try.ntmps34
  go_wp2
  go_ret
  exact ⟨ret1 (by rw [count_min]), rfl⟩
theorem u64_mod (a : Int) : IntKind.u64.wrap a = a % 18446744073709551616 := by simp [IntKind.wrap, IntKind.bits, IntKind.signed]
theorem logical_any (a b : Int) (w : World) : Calls Try.prog 35 #[.int .i64 a, .int .i64 b] w fun e w' => e = .returned (.int .i64 (wrap64 (a % 18446744073709551616 / 2 ^ (b % 64).toNat))) ∧ w = w' := by
  go_enter Try.func35, Try.ntmps35
  go_wp2
  go_ret
  exact ⟨ret1 (by rw [count_min, u64_mod]), rfl⟩
def cmp64 (a b : Int) : Int := if a < b then -1 else if b < a then 1 else 0
theorem compare_any (a b : Int) (w : World) : Calls Try.prog 36 #[.int .i64 a, .int .i64 b] w fun e w' => e = .returned (.int .i64 (cmp64 a b)) ∧ w = w' := by
  by_cases h1 : a < b
  · have hr : cmp64 a b = -1 := by unfold cmp64; rw [if_pos h1]
    rw [hr]; clear hr
    go_enter Try.func36, Try.ntmps36
    go_wp2
    go_ret
    exact ⟨rfl, rfl⟩
  · by_cases h2 : b < a
    · have hr : cmp64 a b = 1 := by unfold cmp64; rw [if_neg h1, if_pos h2]
      rw [hr]; clear hr
      have h1' : decide (a < b) = false := by simpa using h1
      have h2' : decide (b < a) = true := by simpa using h2
      go_enter Try.func36, Try.ntmps36
      go_wp2
      go_ret
      exact ⟨rfl, rfl⟩
    · have hr : cmp64 a b = 0 := by unfold cmp64; rw [if_neg h1, if_neg h2]
      rw [hr]; clear hr
      have h1' : decide (a < b) = false := by simpa using h1
      have h2' : decide (b < a) = false := by simpa using h2
      go_enter Try.func36, Try.ntmps36
      go_wp2
      go_ret
      exact ⟨rfl, rfl⟩
def abs64 (a : Int) : Int := if a < 0 then wrap64 (-a) else a
theorem abs_any (a : Int) (w : World) : Calls Try.prog 38 #[.int .i64 a] w fun e w' => e = .returned (.int .i64 (abs64 a)) ∧ w = w' := by
  by_cases h1 : a < 0
  · have hr : abs64 a = wrap64 (-a) := by unfold abs64; rw [if_pos h1]
    rw [hr]; clear hr
    go_enter Try.func38, Try.ntmps38
    go_wp2
    go_ret
    exact ⟨rfl, rfl⟩
  · have hr : abs64 a = a := by unfold abs64; rw [if_neg h1]
    rw [hr]; clear hr
    have h1' : decide (a < 0) = false := by simpa using h1
    go_enter Try.func38, Try.ntmps38
    go_wp2
    go_ret
    exact ⟨rfl, rfl⟩
theorem mag_any (a : Int) (ha : I64 a) (w : World) : Calls Try.prog 51 #[.int .i64 a] w fun e w' => e = .returned (.int .u64 (a.natAbs : Int)) ∧ w = w' := by
  obtain ⟨l1, l2⟩ := ha
  by_cases h1 : a < 0
  · go_enter Try.func51, Try.ntmps51
    go_wp2
    go_ret
    exact ⟨ret1 (by rw [u64_mod, u64_mod]; omega), rfl⟩
  · have h1' : decide (a < 0) = false := by simpa using h1
    go_enter Try.func51, Try.ntmps51
    go_wp2
    go_ret
    exact ⟨ret1 (by first | omega | (rw [u64_mod]; omega)), rfl⟩
def divO (a b : Int) : Int := if b = 0 then 0 else wrap64 (a.tdiv b)
def modO (a b : Int) : Int := if b = 0 then 0 else a.tmod b
def zeroE (b : Int) : Int := if b = 0 then 10 else 0
theorem ret2 {k k' : IntKind} {a b a' b' : Int} (h : a = b) (h' : a' = b') : Ending.returned (.tuple #[.int k a, .int k' a']) = .returned (.tuple #[.int k b, .int k' b']) := by rw [h, h']
theorem div_any (a b : Int) (w : World) : Calls Try.prog 20 #[.int .i64 a, .int .i64 b] w fun e w' => e = .returned (.tuple #[.int .i64 (divO a b), .int .i64 (zeroE b)]) ∧ w = w' := by
  by_cases h0 : b = 0
  · subst h0
    go_enter Try.func20, Try.ntmps20
    go_wp2
    go_ret2
    exact ⟨rfl, rfl⟩
  · have e1 : divO a b = wrap64 (a.tdiv b) := by unfold divO; rw [if_neg h0]
    have e2 : zeroE b = 0 := by unfold zeroE; rw [if_neg h0]
    rw [e1, e2]; clear e1 e2
    by_cases hm : b = -1
    · subst hm
      clear h0
      go_enter Try.func20, Try.ntmps20
      go_wp2
      go_ret2
      exact ⟨ret2 (by rw [Int.tdiv_neg, Int.tdiv_one]) rfl, rfl⟩
    · have h0' : (b == 0) = false := by simpa using h0
      have hm' : (b == -1) = false := by simpa using hm
      go_enter Try.func20, Try.ntmps20
      go_wp2
      go_ret2
      trace_state
      exact ⟨rfl, rfl⟩
theorem mod_any (a b : Int) (w : World) : Calls Try.prog 21 #[.int .i64 a, .int .i64 b] w fun e w' => e = .returned (.tuple #[.int .i64 (modO a b), .int .i64 (zeroE b)]) ∧ w = w' := by
  by_cases h0 : b = 0
  · subst h0
    go_enter Try.func21, Try.ntmps21
    go_wp2
    go_ret2
    exact ⟨rfl, rfl⟩
  · have e1 : modO a b = a.tmod b := by unfold modO; rw [if_neg h0]
    have e2 : zeroE b = 0 := by unfold zeroE; rw [if_neg h0]
    rw [e1, e2]; clear e1 e2
    by_cases hm : b = -1
    · subst hm
      clear h0
      go_enter Try.func21, Try.ntmps21
      go_wp2
      go_ret2
      exact ⟨ret2 (by rw [Int.tmod_neg, Int.tmod_one]) rfl, rfl⟩
    · have h0' : (b == 0) = false := by simpa using h0
      have hm' : (b == -1) = false := by simpa using hm
      go_enter Try.func21, Try.ntmps21
      go_wp2
      go_ret2
      exact ⟨rfl, rfl⟩
end Go.Proofs.Ytcjmoobdoinbkaa
