/- dreytop.WholeDepth: for every deep and at the call returns true and its arguments read as before: the statement Rows.WholeDepthSaid. No condition. -/
import Derived.Test.YtpcamgjfikipgaaWholeDepthW
import Derived.Test.YtpcamgjfikipgaaOpenI
import Derived.Test.YtpcamgjfikipgaaRows
namespace Go.Proofs.Ytpcamgjfikipgaa
open Go.RowKit
set_option linter.unusedVariables false
set_option maxRecDepth 100000 in
theorem wholeDepth_guard (d a : Int) (wd : (Lit.int .i64 d).wf = true) (wa : (Lit.int .i64 a).wf = true) (w : World) : Calls Try.prog 7 #[.int .i64 d, .int .i64 a] w fun e w' => e = .returned (.bool true) ∧ Below w.heap.size w w' := by
  by_cases h1 : d < 0
  · have t1 : decide (d < 0) = true := by simpa using h1
    clear wd wa
    go_enter Try.func7, Try.ntmps7
    go_wp2_with (first
      | (go_at_call 35; refine (meter_new _).mono ?_; rintro e w1 ⟨g, rfl, hg1, hm1, hb1⟩; have HM1 := Lib.hid hm1; have HB1 := Lib.hid hb1; have hg1' := hg1; have hnn := fun W => run_eql_ptr_nil (P := Try.prog) W (tp := 71) ⟨g, 0, none⟩ Try.underlying71; clear hm1 hb1 hg1)
      | (go_at_call 36; refine (enter_any HM1.out (by omega) (by omega)).mono ?_; rintro e w2 ⟨rfl, hm2, hk2⟩; have HM2 := Lib.hid hm2; have HK2 := Lib.hid hk2; clear hm2 hk2)
      | (go_at_call 37; refine (leave_any HM2.out (by omega) 1 (by omega)).mono ?_; rintro e w3 ⟨rfl, hm3, hk3⟩; have HM3 := Lib.hid hm3; have HK3 := Lib.hid hk3; clear hm3 hk3))
    go_ret
    exact ⟨rfl, HB1.out.trans (kp_below2 (HK2.out.trans HK3.out (fun _ _ h => h)) HB1.out.size (fun b hb => by omega))⟩
  have t1 : decide (d < 0) = false := by simpa using h1
  by_cases h2 : 80 < d
  · have t2 : decide (80 < d) = true := by simpa using h2
    clear wd wa
    go_enter Try.func7, Try.ntmps7
    go_wp2_with (first
      | (go_at_call 35; refine (meter_new _).mono ?_; rintro e w1 ⟨g, rfl, hg1, hm1, hb1⟩; have HM1 := Lib.hid hm1; have HB1 := Lib.hid hb1; have hg1' := hg1; have hnn := fun W => run_eql_ptr_nil (P := Try.prog) W (tp := 71) ⟨g, 0, none⟩ Try.underlying71; clear hm1 hb1 hg1)
      | (go_at_call 36; refine (enter_any HM1.out (by omega) (by omega)).mono ?_; rintro e w2 ⟨rfl, hm2, hk2⟩; have HM2 := Lib.hid hm2; have HK2 := Lib.hid hk2; clear hm2 hk2)
      | (go_at_call 37; refine (leave_any HM2.out (by omega) 1 (by omega)).mono ?_; rintro e w3 ⟨rfl, hm3, hk3⟩; have HM3 := Lib.hid hm3; have HK3 := Lib.hid hk3; clear hm3 hk3))
    go_ret
    exact ⟨rfl, HB1.out.trans (kp_below2 (HK2.out.trans HK3.out (fun _ _ h => h)) HB1.out.size (fun b hb => by omega))⟩
  obtain ⟨D, rfl⟩ := Int.eq_ofNat_of_zero_le (by omega : 0 ≤ d)
  simp only [Lit.wf, Bool.and_eq_true, decide_eq_true_eq] at wa
  exact wholeDepth_walk D a (by omega) ⟨Int.le_trans (by decide) wa.1, Int.le_trans wa.2 (by decide)⟩ w
namespace wholeDepth
open Go.ChangeShapes Go.WideShapes Go.ChangeAt Go.RowKit
open Go.ChangeMaps (open_string shut_string)
theorem laidOut : laidOutB Try.prog = true := by kernel_rfl
theorem own : ownKnob Try.prog.godebug = none := by kernel_rfl
set_option maxRecDepth 100000 in
theorem lifted (os : Os) (started : os.Started) (H : Type) (enc : TypeId × Value → H) :
    ReturnsInHanded {} Try.checked os 7 .any (Rows.wholeDepthSpec.pre6 enc Try.prog Try.f7 Rows.wholeDepthRow.domain false) (Rows.wholeDepthSpec.post enc Try.prog Try.f7 false true false false) := by
  refine returnsInHanded_of_change (C := Try.checked) own started (by kernel_rfl) Try.func7
    (ChangeSpec.witness6 (enc := enc) (C := Try.checked) false ⟨#[], #[.int .i64 0, .int .i64 0], []⟩ 8 (by kernel_rfl) (by kernel_rfl) (by kernel_rfl) (by kernel_rfl)) ?_
  intro W base args ds gs before hval0 hW hcnd _
  have hval : ∀ (j : Nat) t v, Try.f7.params[j]? = some t → args[j]? = some v → Value.okWide Try.prog W .any base t v := hval0
  have hW' := hW
  obtain ⟨p, q, hA0, hV, rfl, hfz, hnd⟩ := hW
  have hA : DataW.TrodAll enc Try.prog W 0 (fun _ => true) true Try.f7.params.toList args.toList ds p := hA0
  rw [Try.params7] at hA hval
  obtain ⟨v0, vs0, d0, ds0, p0, q0, hargs, rfl, rfl, h0, r0⟩ := trodAll_cons hA
  obtain ⟨v1, vs1, d1, ds1, p1, q1, rfl, rfl, rfl, h1, r1⟩ := trodAll_cons r0
  obtain ⟨rfl, rfl, rfl⟩ := trodAll_nil r1
  obtain rfl : args = #[v0, v1] := by cases args; simp_all
  obtain ⟨rfl, rfl⟩ := trodVars_none hV
  have k0 := h0
  have lt0 : ∀ x ∈ p0, x.block < W.heap.size := by obtain ⟨m, hm⟩ := k0; exact DataW.trod_lt m _ _ _ hm
  have k1 := h1
  have lt1 : ∀ x ∈ p1, x.block < W.heap.size := by obtain ⟨m, hm⟩ := k1; exact DataW.trod_lt m _ _ _ hm
  obtain ⟨a0, rfl, rfl, rfl, w0⟩ := open_int Try.underlying3 (hval 0 3 v0 rfl rfl) h0
  obtain ⟨a1, rfl, rfl, rfl, w1⟩ := open_int Try.underlying3 (hval 1 3 v1 rfl rfl) h1
  clear hA0 hval0
  refine (wholeDepth_guard a0 a1 w0 w1 W).mono fun e W' ⟨he, bel⟩ => ?_
  subst he
  exact ⟨_, rfl, _, _, _, [], _, [], hW', trodAll_mk1 (shut_bool Try.underlying4 _), (trodAll_cons_mk (Below.trod laidOut (by kernel_rfl) (of_decide_eq_true (by kernel_rfl)) k0 bel lt0) (trodAll_cons_mk (Below.trod laidOut (by kernel_rfl) (of_decide_eq_true (by kernel_rfl)) k1 bel lt1) trodAll_mk0)), rfl, bel.frame _, fun h => by cases h⟩
theorem over : Rows.wholeDepthRow.holds Try.pinned (OpenSpec.ofChange Rows.wholeDepthSpec) :=
  OpenClaim.holds_of_wide 7 Try.f7 rfl rfl rfl rfl rfl rfl rfl ⟨rfl, rfl, rfl, rfl, rfl⟩ rfl rfl rfl rfl rfl (by kernel_rfl) Try.func7 (by kernel_rfl)
    (of_decide_eq_true (by kernel_rfl)) (by unfold Func.isWrapper; first | (rw [if_pos (by decide +kernel)]; kernel_rfl) | (rw [if_neg (by decide +kernel)]; exact ⟨rfl, rfl⟩))
    (fun os started H enc _ => lifted os started H enc)
theorem proved : Rows.WholeDepthSaid := over
#print axioms proved
end wholeDepth
end Go.Proofs.Ytpcamgjfikipgaa
