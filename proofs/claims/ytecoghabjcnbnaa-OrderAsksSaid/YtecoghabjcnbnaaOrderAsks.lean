/- dreylaw19.OrderAsks: for every list of values and of answers the call returns true and its arguments read as before: the statement Rows.OrderAsksSaid. No condition. -/
import Derived.Test.YtecoghabjcnbnaaAsks
import Derived.Test.YtecoghabjcnbnaaOpenI
import Derived.Test.YtecoghabjcnbnaaRows
namespace Go.Proofs.Ytecoghabjcnbnaa
open Go.RowKit
set_option linter.unusedVariables false
theorem orderAsks_guard (A B : Option Addr) (n c m d : Nat) (vs : List V) (cs : List Int) (w : World) (hv : RdV w A n vs) (hc : Rd w B m 1 (cs.map (Value.int .i64))) (h1 : n ≤ maxLen) (h2 : m ≤ maxLen) :
    Calls Try.prog 4 #[.slice A n c, .slice B m d] w fun e w' => e = .returned (.bool true) ∧ Below w.heap.size w w' := by
  unfold maxLen at h1 h2
  by_cases h : 40 < n ∨ 400 < m
  · exact asks_big h (by omega) (by omega)
  · exact asks_walk hv hc (by omega) (by omega)
namespace orderAsks
open Go.ChangeShapes Go.WideShapes Go.ChangeAt Go.RowKit
open Go.ChangeMaps (open_string shut_string)
theorem own : ownKnob Try.prog.godebug = none := by kernel_rfl
set_option maxRecDepth 100000 in
theorem lifted (os : Os) (started : os.Started) (H : Type) (enc : TypeId × Value → H) :
    ReturnsInHanded {} Try.checked os 4 .any (Rows.orderAsksSpec.pre6 enc Try.prog Try.f4 Rows.orderAsksRow.domain false) (Rows.orderAsksSpec.post enc Try.prog Try.f4 false true false false) := by
  refine returnsInHanded_of_change (C := Try.checked) own started (by kernel_rfl) Try.func4
    (ChangeSpec.witness6 (enc := enc) (C := Try.checked) false ⟨#[], #[.slice none 0 0, .slice none 0 0], []⟩ 8 (by kernel_rfl) (by kernel_rfl) (by kernel_rfl) (by kernel_rfl)) ?_
  intro W base args ds gs before hval0 hW hcnd _
  have hval : ∀ (j : Nat) t v, Try.f4.params[j]? = some t → args[j]? = some v → Value.okWide Try.prog W .any base t v := hval0
  have hW' := hW
  obtain ⟨p, q, hA0, hV, rfl, hfz, hnd⟩ := hW
  have hA : DataW.TrodAll enc Try.prog W 0 (fun _ => true) true Try.f4.params.toList args.toList ds p := hA0
  rw [Try.params4] at hA hval
  obtain ⟨v0, vs0, d0, ds0, p0, q0, hargs, rfl, rfl, h0, r0⟩ := trodAll_cons hA
  obtain ⟨v1, vs1, d1, ds1, p1, q1, rfl, rfl, rfl, h1, r1⟩ := trodAll_cons r0
  obtain ⟨rfl, rfl, rfl⟩ := trodAll_nil r1
  obtain rfl : args = #[v0, v1] := by cases args; simp_all
  obtain ⟨rfl, rfl⟩ := trodVars_none hV
  have k0 := h0
  have lt0 : ∀ x ∈ p0, x.block < W.heap.size := by obtain ⟨m, hm⟩ := k0; exact DataW.trod_lt m _ _ _ hm
  have k1 := h1
  have lt1 : ∀ x ∈ p1, x.block < W.heap.size := by obtain ⟨m, hm⟩ := k1; exact DataW.trod_lt m _ _ _ hm
  obtain ⟨A, n, c, vs, rfl, hrd, hnc, hcm, hok⟩ := open_Vs (hval 0 24 v0 rfl rfl) h0
  obtain ⟨B, m, d, cs, rfl, hrz, hmd, hdm, hoz⟩ := open_Is (hval 1 22 v1 rfl rfl) h1
  clear hA0 hval0
  refine (orderAsks_guard A B n c m d vs cs W hrd hrz (Nat.le_trans hnc hcm) (Nat.le_trans hmd hdm)).mono fun e W' ⟨he, bel⟩ => ?_
  subst he
  exact ⟨_, rfl, _, _, _, [], _, [], hW', trodAll_mk1 (shut_bool Try.underlying4 _), (trodAll_cons_mk (Below.trod laidOut (by kernel_rfl) (of_decide_eq_true (by kernel_rfl)) k0 bel lt0) (trodAll_cons_mk (Below.trod laidOut (by kernel_rfl) (of_decide_eq_true (by kernel_rfl)) k1 bel lt1) trodAll_mk0)), rfl, bel.frame _, fun h => by cases h⟩
theorem over : Rows.orderAsksRow.holds Try.pinned (OpenSpec.ofChange Rows.orderAsksSpec) :=
  OpenClaim.holds_of_wide 4 Try.f4 rfl rfl rfl rfl rfl rfl rfl ⟨rfl, rfl, rfl, rfl, rfl⟩ rfl rfl rfl rfl rfl (by kernel_rfl) Try.func4 (by kernel_rfl)
    (of_decide_eq_true (by kernel_rfl)) (by unfold Func.isWrapper; first | (rw [if_pos (by decide +kernel)]; kernel_rfl) | (rw [if_neg (by decide +kernel)]; exact ⟨rfl, rfl⟩))
    (fun os started H enc _ => lifted os started H enc)
theorem proved : Rows.OrderAsksSaid := over
#print axioms proved
end orderAsks
end Go.Proofs.Ytecoghabjcnbnaa
