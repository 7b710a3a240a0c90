/- limit.Meter: its contracts, for the limits that a law hands in. Conditions: the counts are far below the bound. -/
import Derived.Test.YtpcamgjfikipgaaCatches
import Derived.BigQuiet
import Derived.Deep.RegionWith
import Derived.Deep.DeepCutAuto
import Derived.Deep.DrawnRows
import Derived.Deep.RegionHeld3
namespace Go.Proofs.Ytpcamgjfikipgaa
open Go.RowKit
set_option linter.unusedVariables false
/-- A meter: so many go on, so many did at most. -/
def mcs (d m : Nat) : List Value := [.int .i64 1, .int .i64 0, .int .i64 100, .int .i64 0, .int .i64 0, .int .i64 d, .int .i64 m]
theorem clip_any (a b : Int) (w : World) : Calls Try.prog 72 #[.int .i64 a, .int .i64 b] w fun e w' => e = .returned (.int .i64 (if b < (if a < 0 then 0 else a) then b else (if a < 0 then 0 else a))) ∧ w' = w := by
  go_enter Try.func72, Try.ntmps72
  go_wp2
  all_goals go_ret
  all_goals exact ⟨rfl, rfl⟩
theorem most_any (w : World) : Calls Try.prog 71 #[] w fun e w' => e = .returned (.agg #[.int .i64 16777216, .int .i64 262144, .int .i64 4096, .int .i64 1048576]) ∧ w' = w.alloc (.cells #[.int .i64 16777216, .int .i64 262144, .int .i64 4096, .int .i64 1048576] 74) := by
  go_enter Try.func71, Try.ntmps71
  go_wp2
  exact bodyPost_ret (v := .agg #[.int .i64 16777216, .int .i64 262144, .int .i64 4096, .int .i64 1048576]) (by simp [results, Try.results71, go_sem]) rfl ⟨rfl, rfl⟩
theorem enter_any {w : World} {g d m : Nat} (h : Blk w g 114 (mcs d m)) (hd : d < 100) (hm : m ≤ 100) : Calls Try.prog 36 #[.pointer (some ⟨g, 0, none⟩)] w fun e w' => e = .returned (.int .i64 0) ∧ Blk w' g 114 (mcs (d + 1) (max m (d + 1))) ∧ Kp (fun b => b = g) w w' := by
  have x2 : w.cell? ⟨g, 2, none⟩ = some (.int .i64 100) := h.cell rfl
  have x5 : w.cell? ⟨g, 5, none⟩ = some (.int .i64 d) := h.cell rfl
  have x6 : w.cell? ⟨g, 6, none⟩ = some (.int .i64 m) := h.cell rfl
  have f5 := h.frozen 5
  have f6 := h.frozen 6
  have q1 : decide (100 ≤ d) = false := by simp; omega
  have q2 : decide ((100 : Int) ≤ (d : Int)) = false := by simp; omega
  have H := Lib.hid h
  clear h
  go_enter Try.func36, Try.ntmps36
  go_wp2
  go_quiet (fail)
  go_wp2
  go_region
  go_wp2
  all_goals go_ret
  · have e : max m (d + 1) = d + 1 := by omega
    refine ⟨rfl, ?_, ?_⟩
    · rw [e]
      have := (((H.out.drewN nq).set_ 5 (.int .i64 ((d + 1 : Nat) : Int))).set_ 6 (.int .i64 ((d + 1 : Nat) : Int))).drew
      simpa [mcs] using this
    · exact (((((Kp.refl (fun b => b = g) w).drewN nq).setCell (.inr rfl) _).setCell (.inr rfl) _).drew)
  · have e : max m (d + 1) = m := by omega
    refine ⟨rfl, ?_, ?_⟩
    · rw [e]
      have := (((H.out.drewN nq).set_ 5 (.int .i64 ((d + 1 : Nat) : Int))).set_ 6 (.int .i64 ((m : Nat) : Int))).drew
      simpa [mcs] using this
    · exact (((((Kp.refl (fun b => b = g) w).drewN nq).setCell (.inr rfl) _).setCell (.inr rfl) _).drew)
theorem leave_any {w : World} {g d m : Nat} (h : Blk w g 114 (mcs d m)) (hd : d ≤ 100) (n : Nat) (hn : n ≤ 100) : Calls Try.prog 37 #[.pointer (some ⟨g, 0, none⟩), .int .i64 n] w fun e w' => e = .returned (.tuple #[]) ∧ Blk w' g 114 (mcs (d - n) m) ∧ Kp (fun b => b = g) w w' := by
  have x5 : w.cell? ⟨g, 5, none⟩ = some (.int .i64 d) := h.cell rfl
  have f5 := h.frozen 5
  have q1 : decide ((n : Int) < 0) = false := by simp
  have H := Lib.hid h
  clear h
  go_enter Try.func37, Try.ntmps37
  go_wp2
  · go_end0
    refine ⟨rfl, ?_, (Kp.refl (fun b => b = g) w).setCell (.inr rfl) _⟩
    have := H.out.set_ 5 (.int .i64 ((d - n : Nat) : Int))
    rw [show ((d - n : Nat) : Int) = (d : Int) - n from by omega] at this
    rw [show mcs (d - n) m = (mcs d m).set 5 (.int .i64 ((d : Int) - n)) from by (show _ = _; unfold mcs; simp; omega)]
    exact this
  · go_end0
    refine ⟨rfl, ?_, (Kp.refl (fun b => b = g) w).setCell (.inr rfl) _⟩
    have := H.out.set_ 5 (.int .i64 ((d - n : Nat) : Int))
    rw [show ((d - n : Nat) : Int) = 0 from by omega] at this
    rw [show mcs (d - n) m = (mcs d m).set 5 (.int .i64 (0)) from by (show _ = _; unfold mcs; simp; omega)]
    exact this
  · go_end0
    refine ⟨rfl, ?_, (Kp.refl (fun b => b = g) w).setCell (.inr rfl) _⟩
    have := H.out.set_ 5 (.int .i64 ((d - n : Nat) : Int))
    rw [show ((d - n : Nat) : Int) = (d : Int) from by omega] at this
    rw [show mcs (d - n) m = (mcs d m).set 5 (.int .i64 ((d : Int))) from by (show _ = _; unfold mcs; simp; omega)]
    exact this
  · go_end0
    refine ⟨rfl, ?_, (Kp.refl (fun b => b = g) w).setCell (.inr rfl) _⟩
    have := H.out.set_ 5 (.int .i64 ((d - n : Nat) : Int))
    rw [show ((d - n : Nat) : Int) = 0 from by omega] at this
    rw [show mcs (d - n) m = (mcs d m).set 5 (.int .i64 (0)) from by (show _ = _; unfold mcs; simp; omega)]
    exact this
theorem used_any {w : World} {g d m : Nat} (h : Blk w g 114 (mcs d m)) : Calls Try.prog 38 #[.pointer (some ⟨g, 0, none⟩)] w fun e w' => e = .returned (.tuple #[.int .i64 0, .int .i64 d, .int .i64 m]) ∧ ∃ n, w' = w.drewN n := by
  have x4 : w.cell? ⟨g, 4, none⟩ = some (.int .i64 0) := h.cell rfl
  have x5 : w.cell? ⟨g, 5, none⟩ = some (.int .i64 d) := h.cell rfl
  have x6 : w.cell? ⟨g, 6, none⟩ = some (.int .i64 m) := h.cell rfl
  clear h
  go_enter Try.func38, Try.ntmps38
  go_wp2
  go_quiet (fail)
  go_wp2
  refine bodyPost_ret (v := .tuple #[.int .i64 0, .int .i64 d, .int .i64 m]) (by simp [results, Try.results38, go_sem]) rfl ?_
  exact ⟨rfl, _, rfl⟩
set_option maxRecDepth 100000 in
set_option maxHeartbeats 2000000 in
theorem clip_all (w : World) : Calls Try.prog 69 #[.agg #[.int .i64 1, .int .i64 0, .int .i64 100, .int .i64 0]] w fun e w' => e = .returned (.agg #[.int .i64 1, .int .i64 0, .int .i64 100, .int .i64 0]) ∧ Below w.heap.size w w' := by
  go_enter Try.func69, Try.ntmps69
  go_wp2_with (go_at_call 71; refine (most_any _).mono ?_; rintro e w' ⟨rfl, rfl⟩)
  go_region_held3 (fun w' => w'.cell? ⟨w.heap.size, 0, none⟩ = some (.int .i64 1) ∧ w'.cell? ⟨w.heap.size, 1, none⟩ = some (.int .i64 0) ∧ w'.cell? ⟨w.heap.size, 2, none⟩ = some (.int .i64 100) ∧ w'.cell? ⟨w.heap.size, 3, none⟩ = some (.int .i64 0) ∧ w'.cell? ⟨w.heap.size + 1 + 1 + 1, 0, none⟩ = some (.int .i64 16777216) ∧ w'.cell? ⟨w.heap.size + 1 + 1 + 1, 1, none⟩ = some (.int .i64 262144) ∧ w'.cell? ⟨w.heap.size + 1 + 1 + 1, 2, none⟩ = some (.int .i64 4096) ∧ w'.cell? ⟨w.heap.size + 1 + 1 + 1, 3, none⟩ = some (.int .i64 1048576)) ((first | (refine ⟨?_, ?_, ?_, ?_, ?_, ?_, ?_, ?_⟩ <;> go_simp)))
   (first
    | (go_at_call 72; refine (clip_any _ _ _).mono ?_; rintro e w' ⟨rfl, rfl⟩; simp only []))
  go_wp2
  refine bodyPost_ret (v := .agg #[.int .i64 1, .int .i64 0, .int .i64 100, .int .i64 0]) (by simp [results, Try.results69, go_sem]) rfl ⟨rfl, ?_⟩
  repeat (first | exact Below.refl _ _ | refine below_alloc ?_ _ | refine Below.drew ?_ | refine Below.setCell ?_ (by simp; omega) _)
/-- New: a meter of at most 100 functions. -/
theorem meter_new (w : World) : Calls Try.prog 35 #[.agg #[.int .i64 1, .int .i64 0, .int .i64 100, .int .i64 0]] w fun e w' => ∃ g, e = .returned (.pointer (some ⟨g, 0, none⟩)) ∧ w.heap.size ≤ g ∧ Blk w' g 114 (mcs 0 0) ∧ Below w.heap.size w w' := by
  go_enter Try.func35, Try.ntmps35
  go_wp2_with (go_at_call 69; refine (clip_all _).mono ?_; rintro e w1 ⟨rfl, hb⟩; have HB := Lib.hid hb; clear hb)
  go_ret
  exact ⟨_, rfl, by have := HB.out.size; simp at this; omega, Blk.new w1 114 (mcs 0 0), below_alloc (below_chain HB.out (below_alloc (Below.refl _ _) _)) _⟩
end Go.Proofs.Ytpcamgjfikipgaa
