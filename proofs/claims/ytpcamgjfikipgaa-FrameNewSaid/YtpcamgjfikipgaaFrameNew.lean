/- dreylaw20.FrameNew: for every regs, args and self the call returns true and its arguments read as before: the statement Rows.FrameNewSaid. No condition. -/
import Derived.Test.YtpcamgjfikipgaaFrameNewW
import Derived.Test.YtpcamgjfikipgaaOpen
import Derived.Test.YtpcamgjfikipgaaRows
namespace Go.Proofs.Ytpcamgjfikipgaa
open Go.RowKit
set_option linter.unusedVariables false
theorem frameNew_guard (a0 : Int) (A : Option Addr) (n c : Nat) (vs : List V) (self : V) (w : World) (hv : RdV w A n vs) (hn : n ≤ maxLen) (w0 : (Lit.int .i64 a0).wf = true) :
    Calls Try.prog 4 #[.int .i64 a0, .slice A n c, self.agg] w fun e w' => e = .returned (.bool true) ∧ Below w.heap.size w w' := by
  unfold maxLen at hn
  by_cases h1 : a0 < 0
  · have t1 : decide (a0 < 0) = true := by simpa using h1
    clear hv
    unfold V.agg
    go_enter Try.func4, Try.ntmps4
    go_wp2_with (go_at_call 13; refine (goes20 _).mono ?_; rintro e w1 ⟨rfl, hb1⟩)
    go_ret
    exact ⟨rfl, below_chain hb1 (below_alloc (Below.refl _ _) _)⟩
  have t1 : decide (a0 < 0) = false := by simpa using h1
  by_cases h2 : 200 < a0
  · have t2 : decide (200 < a0) = true := by simpa using h2
    clear hv
    unfold V.agg
    go_enter Try.func4, Try.ntmps4
    go_wp2_with (go_at_call 13; refine (goes20 _).mono ?_; rintro e w1 ⟨rfl, hb1⟩)
    go_ret
    exact ⟨rfl, below_chain hb1 (below_alloc (Below.refl _ _) _)⟩
  have t2 : decide (200 < a0) = false := by simpa using h2
  obtain ⟨regs, rfl⟩ := Int.eq_ofNat_of_zero_le (by omega : 0 ≤ a0)
  by_cases h3 : regs < n
  · have t3 : decide (regs < n) = true := by simpa using h3
    clear hv
    unfold V.agg
    go_enter Try.func4, Try.ntmps4
    go_wp2_with (go_at_call 13; refine (goes20 _).mono ?_; rintro e w1 ⟨rfl, hb1⟩)
    go_ret
    exact ⟨rfl, below_chain hb1 (below_alloc (Below.refl _ _) _)⟩
  exact frameNew_walk regs n c (by omega) (by omega) A vs self w hv
namespace frameNew
open Go.ChangeShapes Go.WideShapes Go.ChangeAt Go.RowKit
open Go.ChangeMaps (open_string shut_string)
theorem laidOut : laidOutB Try.prog = true := by kernel_rfl
theorem own : ownKnob Try.prog.godebug = none := by kernel_rfl
set_option maxRecDepth 100000 in
theorem lifted (os : Os) (started : os.Started) (H : Type) (enc : TypeId × Value → H) :
    ReturnsInHanded {} Try.checked os 4 .any (Rows.frameNewSpec.pre6 enc Try.prog Try.f4 Rows.frameNewRow.domain false) (Rows.frameNewSpec.post enc Try.prog Try.f4 false true false false) := by
  refine returnsInHanded_of_change (C := Try.checked) own started (by kernel_rfl) Try.func4
    (ChangeSpec.witness6 (enc := enc) (C := Try.checked) false ⟨#[], #[.int .i64 0, .slice none 0 0, .agg #[.int .i64 0, .int .i64 0, .string ⟨#[]⟩]], []⟩ 8 (by kernel_rfl) (by kernel_rfl) (by kernel_rfl) (by kernel_rfl)) ?_
  intro W base args ds gs before hval0 hW hcnd _
  have hval : ∀ (j : Nat) t v, Try.f4.params[j]? = some t → args[j]? = some v → Value.okWide Try.prog W .any base t v := hval0
  have hW' := hW
  obtain ⟨p, q, hA0, hV, rfl, hfz, hnd⟩ := hW
  have hA : DataW.TrodAll enc Try.prog W 0 (fun _ => true) true Try.f4.params.toList args.toList ds p := hA0
  rw [Try.params4] at hA hval
  obtain ⟨v0, vs0, d0, ds0, p0, q0, hargs, rfl, rfl, h0, r0⟩ := trodAll_cons hA
  obtain ⟨v1, vs1, d1, ds1, p1, q1, rfl, rfl, rfl, h1, r1⟩ := trodAll_cons r0
  obtain ⟨v2, vs2, d2, ds2, p2, q2, rfl, rfl, rfl, h2, r2⟩ := trodAll_cons r1
  obtain ⟨rfl, rfl, rfl⟩ := trodAll_nil r2
  obtain rfl : args = #[v0, v1, v2] := by cases args; simp_all
  obtain ⟨rfl, rfl⟩ := trodVars_none hV
  have k0 := h0
  have lt0 : ∀ x ∈ p0, x.block < W.heap.size := by obtain ⟨m, hm⟩ := k0; exact DataW.trod_lt m _ _ _ hm
  have k1 := h1
  have lt1 : ∀ x ∈ p1, x.block < W.heap.size := by obtain ⟨m, hm⟩ := k1; exact DataW.trod_lt m _ _ _ hm
  have k2 := h2
  have lt2 : ∀ x ∈ p2, x.block < W.heap.size := by obtain ⟨m, hm⟩ := k2; exact DataW.trod_lt m _ _ _ hm
  obtain ⟨a0, rfl, rfl, rfl, w0⟩ := open_int Try.underlying3 (hval 0 3 v0 rfl rfl) h0
  obtain ⟨A, n, c, vs, rfl, hrd, hnc, hcm, hok⟩ := open_Vs (hval 1 23 v1 rfl rfl) h1
  obtain ⟨self, rfl, _⟩ := open_V (hval 2 25 v2 rfl rfl) h2
  clear hA0 hval0
  refine (frameNew_guard a0 A n c vs self W hrd (Nat.le_trans hnc hcm) w0).mono fun e W' ⟨he, bel⟩ => ?_
  subst he
  exact ⟨_, rfl, _, _, _, [], _, [], hW', trodAll_mk1 (shut_bool Try.underlying4 _), (trodAll_cons_mk (Below.trod laidOut (by kernel_rfl) (of_decide_eq_true (by kernel_rfl)) k0 bel lt0) (trodAll_cons_mk (Below.trod laidOut (by kernel_rfl) (of_decide_eq_true (by kernel_rfl)) k1 bel lt1) (trodAll_cons_mk (Below.trod laidOut (by kernel_rfl) (of_decide_eq_true (by kernel_rfl)) k2 bel lt2) trodAll_mk0))), rfl, bel.frame _, fun h => by cases h⟩
theorem over : Rows.frameNewRow.holds Try.pinned (OpenSpec.ofChange Rows.frameNewSpec) :=
  OpenClaim.holds_of_wide 4 Try.f4 rfl rfl rfl rfl rfl rfl rfl ⟨rfl, rfl, rfl, rfl, rfl⟩ rfl rfl rfl rfl rfl (by kernel_rfl) Try.func4 (by kernel_rfl)
    (of_decide_eq_true (by kernel_rfl)) (by unfold Func.isWrapper; first | (rw [if_pos (by decide +kernel)]; kernel_rfl) | (rw [if_neg (by decide +kernel)]; exact ⟨rfl, rfl⟩))
    (fun os started H enc _ => lifted os started H enc)
theorem proved : Rows.FrameNewSaid := over
#print axioms proved
end frameNew
end Go.Proofs.Ytpcamgjfikipgaa
