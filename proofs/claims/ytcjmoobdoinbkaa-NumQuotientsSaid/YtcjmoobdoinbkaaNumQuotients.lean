/- dreylaw01.NumQuotients: for every a and b the call returns true and its arguments read as before: the statement Rows.NumQuotientsSaid. No condition. -/
import Derived.Test.YtcjmoobdoinbkaaReckons
import Derived.Test.YtcjmoobdoinbkaaRows
import Derived.ProofKit
import Derived.OpenShut
import Derived.Below
import Derived.Lib.SmallJoins
import Derived.ChangeSame
namespace Go.Proofs.Ytcjmoobdoinbkaa
open Go.RowKit
set_option linter.unusedVariables false
theorem quot_back (a b : Int) (ha : I64 a) : wrap64 (wrap64 (wrap64 (a.tdiv b) * b) + a.tmod b) = a := by
  rw [wrap64_add_l, ← wrap64_add_l, wrap64_mul_l, wrap64_add_l, Int.mul_comm, Int.mul_tdiv_add_tmod]
  exact wrap64_id ha
theorem mod_sign (a b : Int) : (a.tmod b < 0 → ¬ 0 < a) ∧ (0 < a.tmod b → ¬ a < 0) := by
  refine ⟨fun h h2 => ?_, fun h h2 => ?_⟩
  · have := Int.tmod_nonneg b (Int.le_of_lt h2); omega
  · have h3 := Int.tmod_nonneg (a := -a) b (by omega)
    rw [Int.neg_tmod] at h3; omega
theorem mod_less (a b : Int) (hb : b ≠ 0) : (0 < b → -b < a.tmod b ∧ a.tmod b < b) ∧ (b < 0 → b < a.tmod b ∧ a.tmod b < -b) := by
  have key : ∀ c : Int, 0 < c → -c < a.tmod c ∧ a.tmod c < c := fun c hc => by
    have h1 := Int.tmod_lt_of_pos a hc
    have h2 := Int.tmod_lt_of_pos (-a) hc
    rw [Int.neg_tmod] at h2
    omega
  refine ⟨fun h => key b h, fun h => ?_⟩
  have := key (-b) (by omega)
  rw [Int.tmod_neg] at this
  omega
set_option maxRecDepth 100000 in
theorem quot_zero (a : Int) (w : World) : Calls Try.prog 6 #[.int .i64 a, .int .i64 0] w fun e w' => e = .returned (.bool true) ∧ Below w.heap.size w w' := by
  have cd : ∀ w, Calls Try.prog 20 #[.int .i64 a, .int .i64 0] w fun e w' => e = .returned (.tuple #[.int .i64 0, .int .i64 10]) ∧ w = w' := fun w => div_any a 0 w
  have cm : ∀ w, Calls Try.prog 21 #[.int .i64 a, .int .i64 0] w fun e w' => e = .returned (.tuple #[.int .i64 0, .int .i64 10]) ∧ w = w' := fun w => mod_any a 0 w
  have CD := Lib.hid cd
  have CM := Lib.hid cm
  clear cd cm
  go_enter Try.func6, Try.ntmps6
  go_wp2_with (first
    | (go_at_call 12; refine (reckons_any _).mono ?_; rintro e w1 ⟨rfl, hb1⟩; have HB1 := Lib.hid hb1; clear hb1)
    | (go_at_call 20; refine (CD.out _).mono ?_; rintro e w' ⟨rfl, rfl⟩)
    | (go_at_call 21; refine (CM.out _).mono ?_; rintro e w' ⟨rfl, rfl⟩))
  go_ret
  exact ⟨rfl, HB1.out⟩
set_option maxRecDepth 100000 in
set_option maxHeartbeats 2000000 in
theorem quot_some (a b : Int) (w : World) (ha : I64 a) (hbi : I64 b) (hb : b ≠ 0) : Calls Try.prog 6 #[.int .i64 a, .int .i64 b] w fun e w' => e = .returned (.bool true) ∧ Below w.heap.size w w' := by
  obtain ⟨q, r, hq, hback, hs1, hs2, hl1, hl2, cd, cm⟩ : ∃ q r : Int, I64 r ∧ wrap64 (wrap64 (q * b) + r) = a ∧ (r < 0 → ¬ 0 < a) ∧ (0 < r → ¬ a < 0) ∧ (0 < b → -b < r ∧ r < b) ∧ (b < 0 → b < r ∧ r < -b) ∧
      (∀ w, Calls Try.prog 20 #[.int .i64 a, .int .i64 b] w fun e w' => e = .returned (.tuple #[.int .i64 q, .int .i64 0]) ∧ w = w') ∧
      (∀ w, Calls Try.prog 21 #[.int .i64 a, .int .i64 b] w fun e w' => e = .returned (.tuple #[.int .i64 r, .int .i64 0]) ∧ w = w') := by
    have hm := mod_less a b hb
    have hi : I64 (a.tmod b) := by
      obtain ⟨l1, l2⟩ := hbi
      unfold I64
      rcases Int.lt_or_gt_of_ne hb with h | h
      · have := hm.2 h; omega
      · have := hm.1 h; omega
    refine ⟨wrap64 (a.tdiv b), a.tmod b, hi, quot_back a b ha, (mod_sign a b).1, (mod_sign a b).2, hm.1, hm.2, fun w => ?_, fun w => ?_⟩
    · have := div_any a b w
      unfold divO zeroE at this
      rwa [if_neg hb, if_neg hb] at this
    · have := mod_any a b w
      unfold modO zeroE at this
      rwa [if_neg hb, if_neg hb] at this
  have CD := Lib.hid cd
  have CM := Lib.hid cm
  have e0 : (b == 0) = false := by simpa using hb
  have e1 : (wrap64 (wrap64 (q * b) + r) != a) = false := by rw [hback]; simp
  have HQ : r ≤ 9223372036854775807 ∧ -9223372036854775808 ≤ r := ⟨hq.2, hq.1⟩
  obtain ⟨l1, l2⟩ := HQ
  obtain ⟨l3, l4⟩ := hbi
  clear cd cm hback ha hq
  rcases Int.lt_or_gt_of_ne hb with h | h
  · rcases Int.lt_trichotomy r 0 with hr | hr | hr
    · have r1 : decide (r < 0) = true := by simpa using hr
      have r2 : decide (0 < r) = false := by simp; omega
      have r3 : decide (0 < a) = false := by have := hs1 hr; simp; omega
      have b1 : decide (0 < b) = false := by simp; omega
      have b2 := hl2 h
      obtain ⟨b3, b4⟩ := b2
      clear hs1 hs2 hl1 hl2 hb
      go_enter Try.func6, Try.ntmps6
      go_wp2_with (first
        | (go_at_call 12; refine (reckons_any _).mono ?_; rintro e w1 ⟨rfl, hb1⟩; have HB1 := Lib.hid hb1; clear hb1)
        | (go_at_call 20; refine (CD.out _).mono ?_; rintro e w' ⟨rfl, rfl⟩)
        | (go_at_call 21; refine (CM.out _).mono ?_; rintro e w' ⟨rfl, rfl⟩)
        | (go_at_call 23; refine (mul_any _ _ _).mono ?_; rintro e w' ⟨rfl, rfl⟩)
        | (go_at_call 22; refine (add_any _ _ _).mono ?_; rintro e w' ⟨rfl, rfl⟩))
      go_ret
      exact ⟨by first | rfl | (rw [decide_eq_true (show _ < _ by omega)]; rfl), HB1.out⟩
    · subst hr
      simp only [Int.add_zero] at e1
      have b1 : decide (0 < b) = false := by simp; omega
      have b2 := hl2 h
      obtain ⟨b3, b4⟩ := b2
      clear hs1 hs2 hl1 hl2 hb
      go_enter Try.func6, Try.ntmps6
      go_wp2_with (first
        | (go_at_call 12; refine (reckons_any _).mono ?_; rintro e w1 ⟨rfl, hb1⟩; have HB1 := Lib.hid hb1; clear hb1)
        | (go_at_call 20; refine (CD.out _).mono ?_; rintro e w' ⟨rfl, rfl⟩)
        | (go_at_call 21; refine (CM.out _).mono ?_; rintro e w' ⟨rfl, rfl⟩)
        | (go_at_call 23; refine (mul_any _ _ _).mono ?_; rintro e w' ⟨rfl, rfl⟩)
        | (go_at_call 22; refine (add_any _ _ _).mono ?_; rintro e w' ⟨rfl, rfl⟩))
      go_ret
      exact ⟨by first | rfl | (rw [decide_eq_true (show _ < _ by omega)]; rfl), HB1.out⟩
    · have r1 : decide (r < 0) = false := by simp; omega
      have r2 : decide (0 < r) = true := by simpa using hr
      have r3 : decide (a < 0) = false := by have := hs2 hr; simp; omega
      have b1 : decide (0 < b) = false := by simp; omega
      have b2 := hl2 h
      obtain ⟨b3, b4⟩ := b2
      clear hs1 hs2 hl1 hl2 hb
      go_enter Try.func6, Try.ntmps6
      go_wp2_with (first
        | (go_at_call 12; refine (reckons_any _).mono ?_; rintro e w1 ⟨rfl, hb1⟩; have HB1 := Lib.hid hb1; clear hb1)
        | (go_at_call 20; refine (CD.out _).mono ?_; rintro e w' ⟨rfl, rfl⟩)
        | (go_at_call 21; refine (CM.out _).mono ?_; rintro e w' ⟨rfl, rfl⟩)
        | (go_at_call 23; refine (mul_any _ _ _).mono ?_; rintro e w' ⟨rfl, rfl⟩)
        | (go_at_call 22; refine (add_any _ _ _).mono ?_; rintro e w' ⟨rfl, rfl⟩))
      go_ret
      exact ⟨by first | rfl | (rw [decide_eq_true (show _ < _ by omega)]; rfl), HB1.out⟩
  · rcases Int.lt_trichotomy r 0 with hr | hr | hr
    · have r1 : decide (r < 0) = true := by simpa using hr
      have r2 : decide (0 < r) = false := by simp; omega
      have r3 : decide (0 < a) = false := by have := hs1 hr; simp; omega
      have b1 : decide (0 < b) = true := by simpa using h
      have b2 := hl1 h
      obtain ⟨b3, b4⟩ := b2
      clear hs1 hs2 hl1 hl2 hb
      go_enter Try.func6, Try.ntmps6
      go_wp2_with (first
        | (go_at_call 12; refine (reckons_any _).mono ?_; rintro e w1 ⟨rfl, hb1⟩; have HB1 := Lib.hid hb1; clear hb1)
        | (go_at_call 20; refine (CD.out _).mono ?_; rintro e w' ⟨rfl, rfl⟩)
        | (go_at_call 21; refine (CM.out _).mono ?_; rintro e w' ⟨rfl, rfl⟩)
        | (go_at_call 23; refine (mul_any _ _ _).mono ?_; rintro e w' ⟨rfl, rfl⟩)
        | (go_at_call 22; refine (add_any _ _ _).mono ?_; rintro e w' ⟨rfl, rfl⟩))
      go_ret
      exact ⟨by first | rfl | (rw [decide_eq_true (show _ < _ by omega)]; rfl), HB1.out⟩
    · subst hr
      simp only [Int.add_zero] at e1
      have b1 : decide (0 < b) = true := by simpa using h
      have b2 := hl1 h
      obtain ⟨b3, b4⟩ := b2
      clear hs1 hs2 hl1 hl2 hb
      go_enter Try.func6, Try.ntmps6
      go_wp2_with (first
        | (go_at_call 12; refine (reckons_any _).mono ?_; rintro e w1 ⟨rfl, hb1⟩; have HB1 := Lib.hid hb1; clear hb1)
        | (go_at_call 20; refine (CD.out _).mono ?_; rintro e w' ⟨rfl, rfl⟩)
        | (go_at_call 21; refine (CM.out _).mono ?_; rintro e w' ⟨rfl, rfl⟩)
        | (go_at_call 23; refine (mul_any _ _ _).mono ?_; rintro e w' ⟨rfl, rfl⟩)
        | (go_at_call 22; refine (add_any _ _ _).mono ?_; rintro e w' ⟨rfl, rfl⟩))
      go_ret
      exact ⟨by first | rfl | (rw [decide_eq_true (show _ < _ by omega)]; rfl), HB1.out⟩
    · have r1 : decide (r < 0) = false := by simp; omega
      have r2 : decide (0 < r) = true := by simpa using hr
      have r3 : decide (a < 0) = false := by have := hs2 hr; simp; omega
      have b1 : decide (0 < b) = true := by simpa using h
      have b2 := hl1 h
      obtain ⟨b3, b4⟩ := b2
      clear hs1 hs2 hl1 hl2 hb
      go_enter Try.func6, Try.ntmps6
      go_wp2_with (first
        | (go_at_call 12; refine (reckons_any _).mono ?_; rintro e w1 ⟨rfl, hb1⟩; have HB1 := Lib.hid hb1; clear hb1)
        | (go_at_call 20; refine (CD.out _).mono ?_; rintro e w' ⟨rfl, rfl⟩)
        | (go_at_call 21; refine (CM.out _).mono ?_; rintro e w' ⟨rfl, rfl⟩)
        | (go_at_call 23; refine (mul_any _ _ _).mono ?_; rintro e w' ⟨rfl, rfl⟩)
        | (go_at_call 22; refine (add_any _ _ _).mono ?_; rintro e w' ⟨rfl, rfl⟩))
      go_ret
      exact ⟨by first | rfl | (rw [decide_eq_true (show _ < _ by omega)]; rfl), HB1.out⟩

theorem numQuotients_guard (a b : Int) (wa : (Lit.int .i64 a).wf = true) (wb : (Lit.int .i64 b).wf = true) (w : World) : Calls Try.prog 6 #[.int .i64 a, .int .i64 b] w fun e w' => e = .returned (.bool true) ∧ Below w.heap.size w w' := by
  by_cases hb : b = 0
  · subst hb; exact quot_zero a w
  · exact quot_some a b w (wf_i64 wa) (wf_i64 wb) hb
namespace numQuotients
open Go.ChangeShapes Go.WideShapes Go.ChangeAt Go.RowKit
open Go.ChangeMaps (open_string shut_string)
theorem laidOut : laidOutB Try.prog = true := by kernel_rfl
theorem own : ownKnob Try.prog.godebug = none := by kernel_rfl
set_option maxRecDepth 100000 in
theorem lifted (os : Os) (started : os.Started) (H : Type) (enc : TypeId × Value → H) :
    ReturnsInHanded {} Try.checked os 6 .any (Rows.numQuotientsSpec.pre6 enc Try.prog Try.f6 Rows.numQuotientsRow.domain false) (Rows.numQuotientsSpec.post enc Try.prog Try.f6 false true false false) := by
  refine returnsInHanded_of_change (C := Try.checked) own started (by kernel_rfl) Try.func6
    (ChangeSpec.witness6 (enc := enc) (C := Try.checked) false ⟨#[], #[.int .i64 0, .int .i64 0], []⟩ 8 (by kernel_rfl) (by kernel_rfl) (by kernel_rfl) (by kernel_rfl)) ?_
  intro W base args ds gs before hval0 hW hcnd _
  have hval : ∀ (j : Nat) t v, Try.f6.params[j]? = some t → args[j]? = some v → Value.okWide Try.prog W .any base t v := hval0
  have hW' := hW
  obtain ⟨p, q, hA0, hV, rfl, hfz, hnd⟩ := hW
  have hA : DataW.TrodAll enc Try.prog W 0 (fun _ => true) true Try.f6.params.toList args.toList ds p := hA0
  rw [Try.params6] at hA hval
  obtain ⟨v0, vs0, d0, ds0, p0, q0, hargs, rfl, rfl, h0, r0⟩ := trodAll_cons hA
  obtain ⟨v1, vs1, d1, ds1, p1, q1, rfl, rfl, rfl, h1, r1⟩ := trodAll_cons r0
  obtain ⟨rfl, rfl, rfl⟩ := trodAll_nil r1
  obtain rfl : args = #[v0, v1] := by cases args; simp_all
  obtain ⟨rfl, rfl⟩ := trodVars_none hV
  have k0 := h0
  have lt0 : ∀ x ∈ p0, x.block < W.heap.size := by obtain ⟨m, hm⟩ := k0; exact DataW.trod_lt m _ _ _ hm
  have k1 := h1
  have lt1 : ∀ x ∈ p1, x.block < W.heap.size := by obtain ⟨m, hm⟩ := k1; exact DataW.trod_lt m _ _ _ hm
  obtain ⟨a0, rfl, rfl, rfl, w0⟩ := open_int Try.underlying2 (hval 0 2 v0 rfl rfl) h0
  obtain ⟨a1, rfl, rfl, rfl, w1⟩ := open_int Try.underlying2 (hval 1 2 v1 rfl rfl) h1
  clear hA0 hval0
  refine (numQuotients_guard a0 a1 w0 w1 W).mono fun e W' ⟨he, bel⟩ => ?_
  subst he
  exact ⟨_, rfl, _, _, _, [], _, [], hW', trodAll_mk1 (shut_bool Try.underlying4 _), (trodAll_cons_mk (Below.trod laidOut (by kernel_rfl) (of_decide_eq_true (by kernel_rfl)) k0 bel lt0) (trodAll_cons_mk (Below.trod laidOut (by kernel_rfl) (of_decide_eq_true (by kernel_rfl)) k1 bel lt1) trodAll_mk0)), rfl, bel.frame _, fun h => by cases h⟩
theorem over : Rows.numQuotientsRow.holds Try.pinned (OpenSpec.ofChange Rows.numQuotientsSpec) :=
  OpenClaim.holds_of_wide 6 Try.f6 rfl rfl rfl rfl rfl rfl rfl ⟨rfl, rfl, rfl, rfl, rfl⟩ rfl rfl rfl rfl rfl (by kernel_rfl) Try.func6 (by kernel_rfl)
    (of_decide_eq_true (by kernel_rfl)) (by unfold Func.isWrapper; first | (rw [if_pos (by decide +kernel)]; kernel_rfl) | (rw [if_neg (by decide +kernel)]; exact ⟨rfl, rfl⟩))
    (fun os started H enc _ => lifted os started H enc)
theorem proved : Rows.NumQuotientsSaid := over
#print axioms proved
end numQuotients
end Go.Proofs.Ytcjmoobdoinbkaa
