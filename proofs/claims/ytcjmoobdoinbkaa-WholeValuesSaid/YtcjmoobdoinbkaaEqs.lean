/- Whether two values are the same, as the walk asks it. No condition. -/
import Derived.Test.YtcjmoobdoinbkaaVals
import Derived.Deep.LoopGhost
namespace Go.Proofs.Ytcjmoobdoinbkaa
open Go.RowKit
/-- Are two values the same? -/
def veq (x y : V) : Bool := x.k == y.k && (x.n == y.n && x.s.toList == y.s.toList)
theorem veq_self (x : V) : veq x x = true := by simp [veq]
set_option maxRecDepth 100000 in
theorem run_same_V (x y : V) (d : Nat) (W : World) : (Op.equalIn (d + 3) 50 x.agg y.agg).run Try.prog W = .ok (veq x y) W := by
  unfold V.agg veq
  rw [run_equalIn_struct W (d + 2) 50 _ _ (by kernel_rfl) (by kernel_rfl)]
  go_simp
  by_cases h1 : x.k = y.k
  · by_cases h2 : x.n = y.n
    · by_cases h3 : x.s.toList = y.s.toList
      · rw [if_pos h1, if_pos h2, if_pos h3]; simp [h1, h2, h3]
      · rw [if_pos h1, if_pos h2, if_neg h3]; simp [h3]
    · rw [if_pos h1, if_neg h2]; simp [h2]
  · rw [if_neg h1]; simp [h1]
theorem run_eql_V (x y : V) (W : World) : (binOp .eql 50 x.agg y.agg).run Try.prog W = .ok (.bool (veq x y)) W := by
  unfold V.agg
  rw [run_eql_struct]
  have h := run_same_V x y 9997 W
  unfold V.agg at h
  rw [h]
  rfl
theorem run_neq_V (x y : V) (W : World) : (binOp .neq 50 x.agg y.agg).run Try.prog W = .ok (.bool (!veq x y)) W := by
  unfold V.agg
  rw [run_neq_struct]
  have h := run_same_V x y 9997 W
  unfold V.agg at h
  rw [h]
  rfl
end Go.Proofs.Ytcjmoobdoinbkaa
