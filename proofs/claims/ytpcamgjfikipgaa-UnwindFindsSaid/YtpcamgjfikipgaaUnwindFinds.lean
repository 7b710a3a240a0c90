/- dreylaw21.UnwindFinds: for every tries, pcs and thrown the call returns true and its arguments read as before: the statement Rows.UnwindFindsSaid. No condition. -/
import Derived.Test.YtpcamgjfikipgaaUnwindFindsW
import Derived.Test.YtpcamgjfikipgaaOpenT
import Derived.Test.YtpcamgjfikipgaaRows
namespace Go.Proofs.Ytpcamgjfikipgaa
open Go.RowKit
set_option linter.unusedVariables false
set_option maxRecDepth 100000 in
theorem unwindFinds_guard (n c m cm : Nat) (A B : Option Addr) (ts : List TryD) (zs : List Int) (th : V) (w : World) (ht : RdT w A n ts) (hz : Rd w B m 1 (zs.map (Value.int .i64))) (hzb : ∀ z ∈ zs, z ≤ 9223372036854775807) (h1 : n ≤ maxLen) (h2 : m ≤ maxLen) :
    Calls Try.prog 6 #[.slice A n c, .slice B m cm, th.agg] w fun e w' => e = .returned (.bool true) ∧ Below w.heap.size w w' := by
  unfold maxLen at h1 h2
  by_cases h3 : 20 < n
  · have t1 : decide ((20 : Int) < (n : Int)) = true := by simp; omega
    clear ht hz hzb
    unfold V.agg
    go_enter Try.func6, Try.ntmps6
    go_wp2_with (go_at_call 28; refine (catches_walk _).mono ?_; rintro e w1 ⟨rfl, hb1⟩)
    go_ret
    exact ⟨rfl, below_chain hb1 (below_alloc (below_alloc (Below.refl _ _) _) _)⟩
  have t1 : decide ((20 : Int) < (n : Int)) = false := by simp; omega
  by_cases h4 : 40 < m
  · have t2 : decide ((40 : Int) < (m : Int)) = true := by simp; omega
    clear ht hz hzb
    unfold V.agg
    go_enter Try.func6, Try.ntmps6
    go_wp2_with (go_at_call 28; refine (catches_walk _).mono ?_; rintro e w1 ⟨rfl, hb1⟩; have HP4 : Hid (Blk w1 w.heap.size 44 [.slice B m cm]) := ((Blk.new w 44 [.slice B m cm]).alloc _).below hb1 (by simp; omega); have hx4 := HP4.out.cell (i := 0) rfl)
    go_ret
    exact ⟨rfl, below_chain hb1 (below_alloc (below_alloc (Below.refl _ _) _) _)⟩
  exact unwindFinds_walk n c m cm (by omega) (by omega) A B ts zs th w ht hz hzb
namespace unwindFinds
open Go.ChangeShapes Go.WideShapes Go.ChangeAt Go.RowKit
open Go.ChangeMaps (open_string shut_string)
theorem laidOut : laidOutB Try.prog = true := by kernel_rfl
theorem own : ownKnob Try.prog.godebug = none := by kernel_rfl
set_option maxRecDepth 100000 in
theorem lifted (os : Os) (started : os.Started) (H : Type) (enc : TypeId × Value → H) :
    ReturnsInHanded {} Try.checked os 6 .any (Rows.unwindFindsSpec.pre6 enc Try.prog Try.f6 Rows.unwindFindsRow.domain false) (Rows.unwindFindsSpec.post enc Try.prog Try.f6 false true false false) := by
  refine returnsInHanded_of_change (C := Try.checked) own started (by kernel_rfl) Try.func6
    (ChangeSpec.witness6 (enc := enc) (C := Try.checked) false ⟨#[], #[.slice none 0 0, .slice none 0 0, .agg #[.int .i64 0, .int .i64 0, .string ⟨#[]⟩]], []⟩ 8 (by kernel_rfl) (by kernel_rfl) (by kernel_rfl) (by kernel_rfl)) ?_
  intro W base args ds gs before hval0 hW hcnd _
  have hval : ∀ (j : Nat) t v, Try.f6.params[j]? = some t → args[j]? = some v → Value.okWide Try.prog W .any base t v := hval0
  have hW' := hW
  obtain ⟨p, q, hA0, hV, rfl, hfz, hnd⟩ := hW
  have hA : DataW.TrodAll enc Try.prog W 0 (fun _ => true) true Try.f6.params.toList args.toList ds p := hA0
  rw [Try.params6] at hA hval
  obtain ⟨v0, vs0, d0, ds0, p0, q0, hargs, rfl, rfl, h0, r0⟩ := trodAll_cons hA
  obtain ⟨v1, vs1, d1, ds1, p1, q1, rfl, rfl, rfl, h1, r1⟩ := trodAll_cons r0
  obtain ⟨v2, vs2, d2, ds2, p2, q2, rfl, rfl, rfl, h2, r2⟩ := trodAll_cons r1
  obtain ⟨rfl, rfl, rfl⟩ := trodAll_nil r2
  obtain rfl : args = #[v0, v1, v2] := by cases args; simp_all
  obtain ⟨rfl, rfl⟩ := trodVars_none hV
  have k0 := h0
  have lt0 : ∀ x ∈ p0, x.block < W.heap.size := by obtain ⟨m, hm⟩ := k0; exact DataW.trod_lt m _ _ _ hm
  have k1 := h1
  have lt1 : ∀ x ∈ p1, x.block < W.heap.size := by obtain ⟨m, hm⟩ := k1; exact DataW.trod_lt m _ _ _ hm
  have k2 := h2
  have lt2 : ∀ x ∈ p2, x.block < W.heap.size := by obtain ⟨m, hm⟩ := k2; exact DataW.trod_lt m _ _ _ hm
  obtain ⟨A, n, c, ts, rfl, hrt, hnc, hcm⟩ := open_Ts (hval 0 31 v0 rfl rfl) h0
  obtain ⟨B, m, cm, zs, rfl, hrz, hmc, hmm, hoz⟩ := open_Is (hval 1 44 v1 rfl rfl) h1
  obtain ⟨th, rfl, _⟩ := open_V (hval 2 25 v2 rfl rfl) h2
  clear hA0 hval0
  refine (unwindFinds_guard n c m cm A B ts zs th W hrt hrz (fun z hz => by have := hoz z hz; simp only [Lit.wf, Bool.and_eq_true, decide_eq_true_eq] at this; exact Int.le_trans this.2 (by decide)) (Nat.le_trans hnc hcm) (Nat.le_trans hmc hmm)).mono fun e W' ⟨he, bel⟩ => ?_
  subst he
  exact ⟨_, rfl, _, _, _, [], _, [], hW', trodAll_mk1 (shut_bool Try.underlying4 _), (trodAll_cons_mk (Below.trod laidOut (by kernel_rfl) (of_decide_eq_true (by kernel_rfl)) k0 bel lt0) (trodAll_cons_mk (Below.trod laidOut (by kernel_rfl) (of_decide_eq_true (by kernel_rfl)) k1 bel lt1) (trodAll_cons_mk (Below.trod laidOut (by kernel_rfl) (of_decide_eq_true (by kernel_rfl)) k2 bel lt2) trodAll_mk0))), rfl, bel.frame _, fun h => by cases h⟩
theorem over : Rows.unwindFindsRow.holds Try.pinned (OpenSpec.ofChange Rows.unwindFindsSpec) :=
  OpenClaim.holds_of_wide 6 Try.f6 rfl rfl rfl rfl rfl rfl rfl ⟨rfl, rfl, rfl, rfl, rfl⟩ rfl rfl rfl rfl rfl (by kernel_rfl) Try.func6 (by kernel_rfl)
    (of_decide_eq_true (by kernel_rfl)) (by unfold Func.isWrapper; first | (rw [if_pos (by decide +kernel)]; kernel_rfl) | (rw [if_neg (by decide +kernel)]; exact ⟨rfl, rfl⟩))
    (fun os started H enc _ => lifted os started H enc)
theorem proved : Rows.UnwindFindsSaid := over
#print axioms proved
end unwindFinds
end Go.Proofs.Ytpcamgjfikipgaa
