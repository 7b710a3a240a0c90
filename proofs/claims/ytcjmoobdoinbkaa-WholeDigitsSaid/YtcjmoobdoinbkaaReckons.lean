/- The contract of dreylaw01's reckons: it is true. No condition. -/
import Derived.Test.YtcjmoobdoinbkaaIn
import Derived.Test.YtcjmoobdoinbkaaParse
import Derived.Test.YtcjmoobdoinbkaaLead
import Derived.Test.YtcjmoobdoinbkaaSize
namespace Go.Proofs.Ytcjmoobdoinbkaa
open Go.RowKit
set_option linter.unusedVariables false
theorem wf_i64 {a : Int} (h : (Lit.int .i64 a).wf = true) : I64 a := by
  simp only [Lit.wf, Bool.and_eq_true, decide_eq_true_eq] at h
  exact ⟨Int.le_trans (by decide) h.1, Int.le_trans h.2 (by decide)⟩
theorem v_div1 : divO (-7) 2 = -3 := by decide +kernel
theorem v_div2 : divO 1 0 = 0 := by decide +kernel
theorem v_mod : modO (-7) 2 = -1 := by decide +kernel
theorem v_in : inL (-255) 16 = [45, 102, 102] := by decide +kernel
theorem v_text : inL (-9223372036854775808) 10 = [45, 57, 50, 50, 51, 51, 55, 50, 48, 51, 54, 56, 53, 52, 55, 55, 53, 56, 48, 56] := by decide +kernel
theorem v_parse : parseO [45, 70, 70] 16 = (-255, 0) := by decide +kernel
theorem v_lead : leadO [43, 52, 50, 97, 98, 99] = (42, 3) := by decide +kernel
theorem v_log : wrap64 ((-1 : Int) % 18446744073709551616 / 2 ^ ((60 : Int) % 64).toNat) = 15 := by decide +kernel
theorem v_size : Lib.bitLen ((-8 : Int).natAbs) = 4 := by decide +kernel
theorem c_div1 (w : World) : Calls Try.prog 20 #[.int .i64 (-7), .int .i64 2] w fun e w' => e = .returned (.tuple #[.int .i64 (-3), .int .i64 0]) ∧ w = w' := by
  have h := div_any (-7) 2 w
  rw [v_div1] at h
  exact h
theorem c_div2 (w : World) : Calls Try.prog 20 #[.int .i64 1, .int .i64 0] w fun e w' => e = .returned (.tuple #[.int .i64 0, .int .i64 10]) ∧ w = w' := div_any 1 0 w
theorem c_mod (w : World) : Calls Try.prog 21 #[.int .i64 (-7), .int .i64 2] w fun e w' => e = .returned (.tuple #[.int .i64 (-1), .int .i64 0]) ∧ w = w' := mod_any (-7) 2 w
theorem c_in (w : World) : Calls Try.prog 13 #[.int .i64 (-255), .int .i64 16] w fun e w' => e = .returned (.tuple #[.string ⟨#[45, 102, 102]⟩, .int .i64 0]) ∧ Below w.heap.size w w' := by
  have h := in_any (-255) 16 w (by unfold I64; omega) (by decide) (by decide)
  unfold AftIn at h
  rw [v_in] at h
  exact h
theorem c_parse (w : World) : Calls Try.prog 14 #[.string ⟨#[45, 70, 70]⟩, .int .i64 16] w fun e w' => e = .returned (.tuple #[.int .i64 (-255), .int .i64 0]) ∧ w = w' := by
  have h := parse_any ⟨#[45, 70, 70]⟩ 16 w (by omega) (by omega) (by decide)
  rw [show bys ⟨#[45, 70, 70]⟩ = [45, 70, 70] from rfl, v_parse] at h
  exact h
theorem c_lead (w : World) : Calls Try.prog 16 #[.string ⟨#[43, 52, 50, 97, 98, 99]⟩] w fun e w' => e = .returned (.tuple #[.int .i64 42, .int .i64 3]) ∧ w = w' := by
  have h := lead_any ⟨#[43, 52, 50, 97, 98, 99]⟩ w (by decide)
  rw [show bys ⟨#[43, 52, 50, 97, 98, 99]⟩ = [43, 52, 50, 97, 98, 99] from rfl, v_lead] at h
  exact h
theorem c_text (w : World) : Calls Try.prog 15 #[.int .i64 (-9223372036854775808)] w fun e w' => e = .returned (.string ⟨#[45, 57, 50, 50, 51, 51, 55, 50, 48, 51, 54, 56, 53, 52, 55, 55, 53, 56, 48, 56]⟩) ∧ Below w.heap.size w w' := by
  have h := text_any (-9223372036854775808) w (by unfold I64; omega)
  rw [v_text] at h
  exact h
theorem c_log (w : World) : Calls Try.prog 35 #[.int .i64 (-1), .int .i64 60] w fun e w' => e = .returned (.int .i64 15) ∧ w = w' := by
  have h := logical_any (-1) 60 w
  rw [v_log] at h
  exact h
theorem c_size (w : World) : Calls Try.prog 39 #[.int .i64 (-8)] w fun e w' => e = .returned (.int .i64 4) ∧ w = w' := by
  have h := size_any (-8) (by unfold I64; omega) w
  rw [v_size] at h
  exact h
theorem c_cmp (w : World) : Calls Try.prog 36 #[.int .i64 2, .int .i64 1] w fun e w' => e = .returned (.int .i64 1) ∧ w = w' := compare_any 2 1 w
theorem v_abs : abs64 (-5) = 5 := by decide +kernel
theorem c_abs (w : World) : Calls Try.prog 38 #[.int .i64 (-5)] w fun e w' => e = .returned (.int .i64 5) ∧ w = w' := by
  have h := abs_any (-5) w
  rw [v_abs] at h
  exact h
set_option maxRecDepth 100000 in
set_option maxHeartbeats 4000000 in
theorem reckons_any (w : World) : Calls Try.prog 12 #[] w fun e w' => e = .returned (.bool true) ∧ Below w.heap.size w w' := by
  go_enter Try.func12, Try.ntmps12
  go_wp2_with (first
    | (go_at_call 20; (first | (with_reducible refine (c_div1 _).mono ?_) | (with_reducible refine (c_div2 _).mono ?_)); rintro e w' ⟨rfl, rfl⟩)
    | (go_at_call 21; refine (c_mod _).mono ?_; rintro e w' ⟨rfl, rfl⟩)
    | (go_at_call 13; refine (c_in _).mono ?_; rintro e w1 ⟨rfl, hb1⟩; have HB1 := Lib.hid hb1; clear hb1)
    | (go_at_call 14; refine (c_parse _).mono ?_; rintro e w' ⟨rfl, rfl⟩)
    | (go_at_call 16; refine (c_lead _).mono ?_; rintro e w' ⟨rfl, rfl⟩)
    | (go_at_call 15; refine (c_text _).mono ?_; rintro e w2 ⟨rfl, hb2⟩; have HB2 := Lib.hid hb2; clear hb2)
    | (go_at_call 35; refine (c_log _).mono ?_; rintro e w' ⟨rfl, rfl⟩)
    | (go_at_call 39; refine (c_size _).mono ?_; rintro e w' ⟨rfl, rfl⟩)
    | (go_at_call 36; refine (c_cmp _).mono ?_; rintro e w' ⟨rfl, rfl⟩)
    | (go_at_call 38; refine (c_abs _).mono ?_; rintro e w' ⟨rfl, rfl⟩))
  go_ret
  exact ⟨rfl, HB1.out.trans (HB2.out.mono HB1.out.size)⟩
end Go.Proofs.Ytcjmoobdoinbkaa
