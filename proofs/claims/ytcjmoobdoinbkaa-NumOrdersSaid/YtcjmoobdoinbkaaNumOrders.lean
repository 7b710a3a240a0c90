/- dreylaw01.NumOrders: for every a and b the call returns true and its arguments read as before: the statement Rows.NumOrdersSaid. No condition. -/
import Derived.Test.YtcjmoobdoinbkaaReckons
import Derived.Test.YtcjmoobdoinbkaaRef
import Derived.Test.YtcjmoobdoinbkaaHash
import Derived.Test.YtcjmoobdoinbkaaRows
import Derived.ProofKit
import Derived.OpenShut
import Derived.Below
import Derived.Lib.SmallJoins
import Derived.ChangeSame
namespace Go.Proofs.Ytcjmoobdoinbkaa
open Go.RowKit
set_option linter.unusedVariables false
theorem bitLen_zero (x : Nat) (h : x < 2 ^ 64) : (Lib.bitLen x = 0 ↔ x = 0) := by
  constructor
  · intro h0
    rcases Nat.eq_zero_or_pos x with e | e
    · exact e
    · rw [Lib.bitLen_half x (by omega) h] at h0; omega
  · rintro rfl; decide
theorem bitLen_top (x : Nat) (h : x ≤ 2 ^ 63) : (Lib.bitLen x = 64 ↔ x = 2 ^ 63) := by
  constructor
  · intro h0
    rcases Nat.lt_or_ge x (2 ^ 63) with e | e
    · have := Lib.bitLen_le x 63 (by decide) e; omega
    · omega
  · rintro rfl; decide +kernel
set_option maxRecDepth 100000 in
set_option maxHeartbeats 4000000 in
theorem orders_walk (a b c c' x y n : Int) (ha hb : Nat) (w : World) (ka : ∀ w, Calls Try.prog 36 #[.int .i64 a, .int .i64 b] w fun e w' => e = .returned (.int .i64 c) ∧ w = w')
    (kb : ∀ w, Calls Try.prog 36 #[.int .i64 b, .int .i64 a] w fun e w' => e = .returned (.int .i64 c') ∧ w = w')
    (kha : ∀ w, Calls Try.prog 37 #[.int .i64 a] w fun e w' => e = .returned (.int .u64 (ha : Int)) ∧ w = w')
    (khb : ∀ w, Calls Try.prog 37 #[.int .i64 b] w fun e w' => e = .returned (.int .u64 (hb : Int)) ∧ w = w')
    (kx : ∀ w, Calls Try.prog 38 #[.int .i64 a] w fun e w' => e = .returned (.int .i64 x) ∧ w = w')
    (ky : ∀ w, Calls Try.prog 19 #[.int .i64 a] w (Num y w))
    (kn : ∀ w, Calls Try.prog 39 #[.int .i64 a] w fun e w' => e = .returned (.int .i64 n) ∧ w = w')
    (c1 : -1 ≤ c') (c2 : c' ≤ 1) (f1 : (c != -c') = false) (f2 : (c == 0) = (a == b)) (f3 : c < 0 ↔ a < b) (f4 : decide (c < -1) = false) (f5 : decide (1 < c) = false)
    (f6 : ((ha : Int) == (hb : Int)) = (a == b))
    (g : ((x != a) = false ∨ ((x != a) = true ∧ (x != y) = false)) ∧ (decide (x < 0) = false ∨ (decide (x < 0) = true ∧ (a != -9223372036854775808) = false)))
    (n1 : decide (n < 0) = false) (n2 : decide (64 < n) = false) (n3 : ((n == 64) == (a == -9223372036854775808)) = true) (n4 : ((n == 0) == (a == 0)) = true) :
    Calls Try.prog 9 #[.int .i64 a, .int .i64 b] w fun e w' => e = .returned (.bool true) ∧ Below w.heap.size w w' := by
  have KA := Lib.hid ka
  have KB := Lib.hid kb
  have KHA := Lib.hid kha
  have KHB := Lib.hid khb
  have KX := Lib.hid kx
  have KY := Lib.hid ky
  have KN := Lib.hid kn
  have G2 := Lib.hid f2
  have G3 := Lib.hid f3
  have G6 := Lib.hid f6
  clear ka kb kha khb kx ky kn f2 f3 f6
  obtain ⟨g1 | ⟨g1, g2⟩, g3 | ⟨g3, g4⟩⟩ := g
  all_goals
    go_enter Try.func9, Try.ntmps9
    go_wp2_with (first
      | (go_at_call 12; refine (reckons_any _).mono ?_; rintro e w1 ⟨rfl, hb1⟩; have HB1 := Lib.hid hb1; clear hb1)
      | (go_at_call 36; ((first | (with_reducible refine (KA.out _).mono ?_) | (with_reducible refine (KB.out _).mono ?_)); rintro e w' ⟨rfl, rfl⟩))
      | (go_at_call 37; ((first | (with_reducible refine (KHA.out _).mono ?_) | (with_reducible refine (KHB.out _).mono ?_)); rintro e w' ⟨rfl, rfl⟩))
      | (go_at_call 38; refine (KX.out _).mono ?_; rintro e w' ⟨rfl, rfl⟩)
      | (go_at_call 39; refine (KN.out _).mono ?_; rintro e w' ⟨rfl, rfl⟩)
      | (go_at_call 19; refine (KY.out _).mono ?_; rintro e w2 ⟨rfl, hb2⟩; have HB2 := Lib.hid hb2; clear hb2))
  all_goals first
    | (go_ret
       first
         | exact ⟨rfl, HB1.out.trans (HB2.out.mono HB1.out.size)⟩
         | exact ⟨rfl, HB1.out⟩)
    | exact absurd G2.out (by assumption)
    | exact absurd G3.out (by assumption)
    | (exfalso
       have h : (!((ha : Int) == (hb : Int)) == (a == b)) = true := by assumption
       rw [G6.out] at h
       revert h
       cases (a == b) <;> simp)
theorem numOrders_guard (a b : Int) (wa : (Lit.int .i64 a).wf = true) (wb : (Lit.int .i64 b).wf = true) (w : World) : Calls Try.prog 9 #[.int .i64 a, .int .i64 b] w fun e w' => e = .returned (.bool true) ∧ Below w.heap.size w w' := by
  have ia := wf_i64 wa
  have ib := wf_i64 wb
  have hn : a.natAbs ≤ 2 ^ 63 := by have := ia.1; have := ia.2; omega
  have hz := bitLen_zero a.natAbs (by omega)
  have ht := bitLen_top a.natAbs hn
  have hle := Lib.bitLen_le a.natAbs 64 (by decide) (by omega)
  have hc : cmp64 a b = - cmp64 b a ∧ (cmp64 a b = 0 ↔ a = b) ∧ (cmp64 a b < 0 ↔ a < b) ∧ -1 ≤ cmp64 a b ∧ cmp64 a b ≤ 1 ∧ -1 ≤ cmp64 b a ∧ cmp64 b a ≤ 1 := by
    unfold cmp64
    rcases Int.lt_trichotomy a b with h | h | h
    · rw [if_pos h, if_neg (by omega), if_pos h]; omega
    · subst h; rw [if_neg (by omega), if_neg (by omega)]; omega
    · rw [if_neg (by omega), if_pos h, if_pos h]; omega
  obtain ⟨h1, h2, h3, h4, h5, h6, h7⟩ := hc
  refine orders_walk a b (cmp64 a b) (cmp64 b a) (abs64 a) (wrap64 (-a)) (Lib.bitLen a.natAbs : Int) _ _ w (compare_any a b) (compare_any b a) (hash_any a) (hash_any b) (abs_any a) (rneg_any a) (size_any a ia) h6 h7 (by rw [h1]; simp) ?_ h3 (by simp <;> omega) (by simp <;> omega) ?_ ?_ (by simp <;> omega) (by simp <;> omega) ?_ ?_
  · rw [Bool.eq_iff_iff]; simpa using h2
  · rw [Bool.eq_iff_iff]
    simp only [beq_iff_eq]
    rw [← hash_eq ia ib]
    omega
  · unfold abs64
    obtain ⟨i1, i2⟩ := ia
    by_cases hneg : a < 0
    · rw [if_pos hneg]
      refine ⟨?_, ?_⟩
      · by_cases he : wrap64 (-a) = a
        · left; rw [he]; simp
        · right; exact ⟨by simpa using he, by simp⟩
      · by_cases hm : a = -9223372036854775808
        · subst hm; right; exact ⟨by decide +kernel, by simp⟩
        · left; rw [wrap64_id (by omega)]; simp; omega
    · rw [if_neg hneg]
      exact ⟨.inl (by simp), .inl (by simp <;> omega)⟩
  · rw [beq_iff_eq, Bool.eq_iff_iff]
    simp only [beq_iff_eq]
    have := ia.1
    have := ia.2
    omega
  · rw [beq_iff_eq, Bool.eq_iff_iff]
    simp only [beq_iff_eq]
    omega
namespace numOrders
open Go.ChangeShapes Go.WideShapes Go.ChangeAt Go.RowKit
open Go.ChangeMaps (open_string shut_string)
theorem laidOut : laidOutB Try.prog = true := by kernel_rfl
theorem own : ownKnob Try.prog.godebug = none := by kernel_rfl
set_option maxRecDepth 100000 in
theorem lifted (os : Os) (started : os.Started) (H : Type) (enc : TypeId × Value → H) :
    ReturnsInHanded {} Try.checked os 9 .any (Rows.numOrdersSpec.pre6 enc Try.prog Try.f9 Rows.numOrdersRow.domain false) (Rows.numOrdersSpec.post enc Try.prog Try.f9 false true false false) := by
  refine returnsInHanded_of_change (C := Try.checked) own started (by kernel_rfl) Try.func9
    (ChangeSpec.witness6 (enc := enc) (C := Try.checked) false ⟨#[], #[.int .i64 0, .int .i64 0], []⟩ 8 (by kernel_rfl) (by kernel_rfl) (by kernel_rfl) (by kernel_rfl)) ?_
  intro W base args ds gs before hval0 hW hcnd _
  have hval : ∀ (j : Nat) t v, Try.f9.params[j]? = some t → args[j]? = some v → Value.okWide Try.prog W .any base t v := hval0
  have hW' := hW
  obtain ⟨p, q, hA0, hV, rfl, hfz, hnd⟩ := hW
  have hA : DataW.TrodAll enc Try.prog W 0 (fun _ => true) true Try.f9.params.toList args.toList ds p := hA0
  rw [Try.params9] at hA hval
  obtain ⟨v0, vs0, d0, ds0, p0, q0, hargs, rfl, rfl, h0, r0⟩ := trodAll_cons hA
  obtain ⟨v1, vs1, d1, ds1, p1, q1, rfl, rfl, rfl, h1, r1⟩ := trodAll_cons r0
  obtain ⟨rfl, rfl, rfl⟩ := trodAll_nil r1
  obtain rfl : args = #[v0, v1] := by cases args; simp_all
  obtain ⟨rfl, rfl⟩ := trodVars_none hV
  have k0 := h0
  have lt0 : ∀ x ∈ p0, x.block < W.heap.size := by obtain ⟨m, hm⟩ := k0; exact DataW.trod_lt m _ _ _ hm
  have k1 := h1
  have lt1 : ∀ x ∈ p1, x.block < W.heap.size := by obtain ⟨m, hm⟩ := k1; exact DataW.trod_lt m _ _ _ hm
  obtain ⟨a0, rfl, rfl, rfl, w0⟩ := open_int Try.underlying2 (hval 0 2 v0 rfl rfl) h0
  obtain ⟨a1, rfl, rfl, rfl, w1⟩ := open_int Try.underlying2 (hval 1 2 v1 rfl rfl) h1
  clear hA0 hval0
  refine (numOrders_guard a0 a1 w0 w1 W).mono fun e W' ⟨he, bel⟩ => ?_
  subst he
  exact ⟨_, rfl, _, _, _, [], _, [], hW', trodAll_mk1 (shut_bool Try.underlying4 _), (trodAll_cons_mk (Below.trod laidOut (by kernel_rfl) (of_decide_eq_true (by kernel_rfl)) k0 bel lt0) (trodAll_cons_mk (Below.trod laidOut (by kernel_rfl) (of_decide_eq_true (by kernel_rfl)) k1 bel lt1) trodAll_mk0)), rfl, bel.frame _, fun h => by cases h⟩
theorem over : Rows.numOrdersRow.holds Try.pinned (OpenSpec.ofChange Rows.numOrdersSpec) :=
  OpenClaim.holds_of_wide 9 Try.f9 rfl rfl rfl rfl rfl rfl rfl ⟨rfl, rfl, rfl, rfl, rfl⟩ rfl rfl rfl rfl rfl (by kernel_rfl) Try.func9 (by kernel_rfl)
    (of_decide_eq_true (by kernel_rfl)) (by unfold Func.isWrapper; first | (rw [if_pos (by decide +kernel)]; kernel_rfl) | (rw [if_neg (by decide +kernel)]; exact ⟨rfl, rfl⟩))
    (fun os started H enc _ => lifted os started H enc)
theorem proved : Rows.NumOrdersSaid := over
#print axioms proved
end numOrders
end Go.Proofs.Ytcjmoobdoinbkaa
