/- dreylaw20.FrameStacks: for every pushes and sorted the call returns true and its arguments read as before: the statement Rows.FrameStacksSaid. No condition. -/
import Derived.Test.YtpcamgjfikipgaaFrameStacksW
import Derived.Test.YtpcamgjfikipgaaOpenI
import Derived.Test.YtpcamgjfikipgaaRows
namespace Go.Proofs.Ytpcamgjfikipgaa
open Go.RowKit
set_option linter.unusedVariables false
set_option maxRecDepth 100000 in
theorem frameStacks_guard (A B : Option Addr) (np cp sn cs : Nat) (zs : List Int) (vs : List V) (w : World) (hz : Rd w A np 1 (zs.map (Value.int .i64))) (hv : RdV w B sn vs) (h1 : np ≤ maxLen) (h2 : sn ≤ maxLen) :
    Calls Try.prog 5 #[.slice A np cp, .slice B sn cs] w fun e w' => e = .returned (.bool true) ∧ Below w.heap.size w w' := by
  unfold maxLen at h1 h2
  by_cases h3 : 60 < np
  · have t1 : decide ((60 : Int) < (np : Int)) = true := by simp; omega
    clear hz hv
    go_enter Try.func5, Try.ntmps5
    go_wp2_with (go_at_call 13; refine (goes20 _).mono ?_; rintro e w1 ⟨rfl, hb1⟩)
    go_ret
    exact ⟨rfl, hb1⟩
  have t1 : decide ((60 : Int) < (np : Int)) = false := by simp; omega
  by_cases h4 : 60 < sn
  · have t2 : decide ((60 : Int) < (sn : Int)) = true := by simp; omega
    clear hz hv
    go_enter Try.func5, Try.ntmps5
    go_wp2_with (go_at_call 13; refine (goes20 _).mono ?_; rintro e w1 ⟨rfl, hb1⟩)
    go_ret
    exact ⟨rfl, hb1⟩
  exact frameStacks_walk np sn cp cs (by omega) (by omega) A B zs vs w hz hv
namespace frameStacks
open Go.ChangeShapes Go.WideShapes Go.ChangeAt Go.RowKit
open Go.ChangeMaps (open_string shut_string)
theorem laidOut : laidOutB Try.prog = true := by kernel_rfl
theorem own : ownKnob Try.prog.godebug = none := by kernel_rfl
set_option maxRecDepth 100000 in
theorem lifted (os : Os) (started : os.Started) (H : Type) (enc : TypeId × Value → H) :
    ReturnsInHanded {} Try.checked os 5 .any (Rows.frameStacksSpec.pre6 enc Try.prog Try.f5 Rows.frameStacksRow.domain false) (Rows.frameStacksSpec.post enc Try.prog Try.f5 false true false false) := by
  refine returnsInHanded_of_change (C := Try.checked) own started (by kernel_rfl) Try.func5
    (ChangeSpec.witness6 (enc := enc) (C := Try.checked) false ⟨#[], #[.slice none 0 0, .slice none 0 0], []⟩ 8 (by kernel_rfl) (by kernel_rfl) (by kernel_rfl) (by kernel_rfl)) ?_
  intro W base args ds gs before hval0 hW hcnd _
  have hval : ∀ (j : Nat) t v, Try.f5.params[j]? = some t → args[j]? = some v → Value.okWide Try.prog W .any base t v := hval0
  have hW' := hW
  obtain ⟨p, q, hA0, hV, rfl, hfz, hnd⟩ := hW
  have hA : DataW.TrodAll enc Try.prog W 0 (fun _ => true) true Try.f5.params.toList args.toList ds p := hA0
  rw [Try.params5] at hA hval
  obtain ⟨v0, vs0, d0, ds0, p0, q0, hargs, rfl, rfl, h0, r0⟩ := trodAll_cons hA
  obtain ⟨v1, vs1, d1, ds1, p1, q1, rfl, rfl, rfl, h1, r1⟩ := trodAll_cons r0
  obtain ⟨rfl, rfl, rfl⟩ := trodAll_nil r1
  obtain rfl : args = #[v0, v1] := by cases args; simp_all
  obtain ⟨rfl, rfl⟩ := trodVars_none hV
  have k0 := h0
  have lt0 : ∀ x ∈ p0, x.block < W.heap.size := by obtain ⟨m, hm⟩ := k0; exact DataW.trod_lt m _ _ _ hm
  have k1 := h1
  have lt1 : ∀ x ∈ p1, x.block < W.heap.size := by obtain ⟨m, hm⟩ := k1; exact DataW.trod_lt m _ _ _ hm
  obtain ⟨A, np, cp, zs, rfl, hrz, hnp, hcp, hoz⟩ := open_Is (hval 0 44 v0 rfl rfl) h0
  obtain ⟨B, sn, cs, vs, rfl, hrd, hnc, hcm, hok⟩ := open_Vs (hval 1 23 v1 rfl rfl) h1
  clear hA0 hval0
  refine (frameStacks_guard A B np cp sn cs zs vs W hrz hrd (Nat.le_trans hnp hcp) (Nat.le_trans hnc hcm)).mono fun e W' ⟨he, bel⟩ => ?_
  subst he
  exact ⟨_, rfl, _, _, _, [], _, [], hW', trodAll_mk1 (shut_bool Try.underlying4 _), (trodAll_cons_mk (Below.trod laidOut (by kernel_rfl) (of_decide_eq_true (by kernel_rfl)) k0 bel lt0) (trodAll_cons_mk (Below.trod laidOut (by kernel_rfl) (of_decide_eq_true (by kernel_rfl)) k1 bel lt1) trodAll_mk0)), rfl, bel.frame _, fun h => by cases h⟩
theorem over : Rows.frameStacksRow.holds Try.pinned (OpenSpec.ofChange Rows.frameStacksSpec) :=
  OpenClaim.holds_of_wide 5 Try.f5 rfl rfl rfl rfl rfl rfl rfl ⟨rfl, rfl, rfl, rfl, rfl⟩ rfl rfl rfl rfl rfl (by kernel_rfl) Try.func5 (by kernel_rfl)
    (of_decide_eq_true (by kernel_rfl)) (by unfold Func.isWrapper; first | (rw [if_pos (by decide +kernel)]; kernel_rfl) | (rw [if_neg (by decide +kernel)]; exact ⟨rfl, rfl⟩))
    (fun os started H enc _ => lifted os started H enc)
theorem proved : Rows.FrameStacksSaid := over
#print axioms proved
end frameStacks
end Go.Proofs.Ytpcamgjfikipgaa
