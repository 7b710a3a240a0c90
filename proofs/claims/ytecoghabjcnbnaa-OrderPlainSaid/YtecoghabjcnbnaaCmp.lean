/- The contracts of value.Same, num.Compare, and value.Compare at numbers. No condition. -/
import Derived.Test.YtecoghabjcnbnaaEqs
namespace Go.Proofs.Ytecoghabjcnbnaa
open Go.RowKit
set_option linter.unusedVariables false
def cmpI (a b : Int) : Int := if a < b then -1 else if b < a then 1 else 0
theorem ncompare_any (a b : Int) (w : World) : Calls Try.prog 23 #[.int .i64 a, .int .i64 b] w fun e w' => e = .returned (.int .i64 (cmpI a b)) ∧ w = w' := by
  by_cases h1 : a < b
  · have hr : cmpI a b = -1 := by unfold cmpI; rw [if_pos h1]
    rw [hr]; clear hr
    go_enter Try.func23, Try.ntmps23
    go_wp2
    go_ret
    exact ⟨rfl, rfl⟩
  · by_cases h2 : b < a
    · have hr : cmpI a b = 1 := by unfold cmpI; rw [if_neg h1, if_pos h2]
      rw [hr]; clear hr
      have h1' : decide (a < b) = false := by simpa using h1
      have h2' : decide (b < a) = true := by simpa using h2
      go_enter Try.func23, Try.ntmps23
      go_wp2
      go_ret
      exact ⟨rfl, rfl⟩
    · have hr : cmpI a b = 0 := by unfold cmpI; rw [if_neg h1, if_neg h2]
      rw [hr]; clear hr
      have h1' : decide (a < b) = false := by simpa using h1
      have h2' : decide (b < a) = false := by simpa using h2
      go_enter Try.func23, Try.ntmps23
      go_wp2
      go_ret
      exact ⟨rfl, rfl⟩
theorem same_any (x y : V) (w : World) : Calls Try.prog 22 #[x.agg, y.agg] w fun e w' => e = .returned (.bool (veq x y)) ∧ Below w.heap.size w w' := by
  obtain ⟨k1, n1, s1⟩ := x
  obtain ⟨k2, n2, s2⟩ := y
  have he := run_eql_V ⟨k1, n1, s1⟩ ⟨k2, n2, s2⟩
  unfold V.agg at he ⊢
  go_enter Try.func22, Try.ntmps22
  go_wp2
  go_ret
  exact ⟨rfl, below_alloc (below_alloc (Below.refl _ _) _) _⟩
theorem bcell {W w1 : World} (hb : Below W.heap.size W w1) : (∀ b o, b < W.heap.size → w1.cell? ⟨b, o, none⟩ = W.cell? ⟨b, o, none⟩) ∧ (∀ b o, b < W.heap.size → w1.frozen? ⟨b, o, none⟩ = W.frozen? ⟨b, o, none⟩) :=
  ⟨fun b o h => hb.cell (p := ⟨b, o, none⟩) h, fun b o h => hb.frozen (p := ⟨b, o, none⟩) h⟩
theorem veq_int (a b : Int) : veq (V.int a) (V.int b) = (a == b) := by simp [veq, V.int]
set_option maxRecDepth 100000 in
theorem compare_int (a b : Int) (w : World) : Calls Try.prog 17 #[(V.int a).agg, (V.int b).agg] w fun e w' => e = .returned (.tuple #[.int .i64 (cmpI a b), .int .i64 0]) ∧ Below w.heap.size w w' := by
  have hs := fun w => same_any (V.int a) (V.int b) w
  rw [veq_int] at hs
  by_cases h : a = b
  · have hb : (a == b) = true := by simpa using h
    rw [hb] at hs
    have hc : cmpI a b = 0 := by unfold cmpI; rw [if_neg (by omega), if_neg (by omega)]
    rw [hc]
    have HS := Lib.hid hs
    clear hs hb hc h
    unfold V.agg V.int
    go_enter Try.func17, Try.ntmps17
    go_wp2_with (go_at_call 22; refine (HS.out _).mono ?_; rintro e w1 ⟨rfl, hb1⟩; have HB1 := Lib.hid hb1; clear hb1)
    go_ret2
    exact ⟨rfl, (below_alloc (below_alloc (Below.refl _ _) _) _).trans (HB1.out.mono (by simp; omega))⟩
  · have hb : (a == b) = false := by simpa using h
    rw [hb] at hs
    have HS := Lib.hid hs
    clear hs hb h
    unfold V.agg V.int
    go_enter Try.func17, Try.ntmps17
    go_wp2_with (first
      | (go_at_call 22; refine (HS.out _).mono ?_; rintro e w1 ⟨rfl, hb1⟩; obtain ⟨hc1, hf1⟩ := bcell hb1; have HB1 := Lib.hid hb1; clear hb1)
      | (go_at_call 23; refine (ncompare_any _ _ _).mono ?_; rintro e w' ⟨rfl, rfl⟩))
    go_ret2
    exact ⟨rfl, (below_alloc (below_alloc (Below.refl _ _) _) _).trans (HB1.out.mono (by simp; omega))⟩
end Go.Proofs.Ytecoghabjcnbnaa
