/- The contract of value.Check: it tells something. No condition. -/
import Derived.Test.YtecoghabjcnbnaaCmpV
namespace Go.Proofs.Ytecoghabjcnbnaa
open Go.RowKit
set_option linter.unusedVariables false
def Chk (w : World) (e : Ending) (w' : World) : Prop := (∃ c, e = .returned (.int .i64 c)) ∧ Below w.heap.size w w'
theorem check_0 (n : Int) (s : ByteArray) (w : World) : Calls Try.prog 19 #[(V.mk 0 n s).agg] w (Chk w) := by
  unfold V.agg
  go_enter Try.func19, Try.ntmps19
  go_wp2
  all_goals (go_ret; exact ⟨⟨_, rfl⟩, below_alloc (Below.refl _ _) _⟩)
theorem check_1 (n : Int) (s : ByteArray) (w : World) : Calls Try.prog 19 #[(V.mk 1 n s).agg] w (Chk w) := by
  unfold V.agg
  go_enter Try.func19, Try.ntmps19
  go_wp2
  all_goals (go_ret; exact ⟨⟨_, rfl⟩, below_alloc (Below.refl _ _) _⟩)
theorem check_2 (n : Int) (s : ByteArray) (w : World) : Calls Try.prog 19 #[(V.mk 2 n s).agg] w (Chk w) := by
  unfold V.agg
  go_enter Try.func19, Try.ntmps19
  go_wp2
  all_goals (go_ret; exact ⟨⟨_, rfl⟩, below_alloc (Below.refl _ _) _⟩)
theorem check_3 (n : Int) (s : ByteArray) (w : World) : Calls Try.prog 19 #[(V.mk 3 n s).agg] w (Chk w) := by
  unfold V.agg
  go_enter Try.func19, Try.ntmps19
  go_wp2
  all_goals (go_ret; exact ⟨⟨_, rfl⟩, below_alloc (Below.refl _ _) _⟩)
theorem check_4 (n : Int) (s : ByteArray) (w : World) : Calls Try.prog 19 #[(V.mk 4 n s).agg] w (Chk w) := by
  unfold V.agg
  go_enter Try.func19, Try.ntmps19
  go_wp2
  all_goals (go_ret; exact ⟨⟨_, rfl⟩, below_alloc (Below.refl _ _) _⟩)
theorem check_any (x : V) (w : World) : Calls Try.prog 19 #[x.agg] w (Chk w) := by
  obtain ⟨k, n, s⟩ := x
  by_cases h1 : k < 0
  · have q1 : decide (k < 0) = true := decide_eq_true h1
    unfold V.agg
    go_enter Try.func19, Try.ntmps19
    go_wp2
    all_goals (go_ret; exact ⟨⟨_, rfl⟩, below_alloc (Below.refl _ _) _⟩)
  · by_cases h2 : 4 < k
    · have q1 : decide (k < 0) = false := decide_eq_false h1
      have q2 : decide (4 < k) = true := decide_eq_true h2
      unfold V.agg
      go_enter Try.func19, Try.ntmps19
      go_wp2
      all_goals (go_ret; exact ⟨⟨_, rfl⟩, below_alloc (Below.refl _ _) _⟩)
    · obtain rfl | rfl | rfl | rfl | rfl : k = 0 ∨ k = 1 ∨ k = 2 ∨ k = 3 ∨ k = 4 := by omega
      · exact check_0 n s w
      · exact check_1 n s w
      · exact check_2 n s w
      · exact check_3 n s w
      · exact check_4 n s w
end Go.Proofs.Ytecoghabjcnbnaa
