/- The contract of value.Compare, and what it tells of two values turned about. Condition: texts of a size that Go knows. -/
import Derived.Test.YtecoghabjcnbnaaStrCmp
namespace Go.Proofs.Ytecoghabjcnbnaa
open Go.RowKit
set_option linter.unusedVariables false
/-- What Compare tells: the order, and the error. -/
def cmpV (x y : V) : Int × Int :=
  if veq x y = true then (0, 0) else if x.k = 0 then (-1, 0) else if y.k = 0 then (1, 0)
  else if x.k = 2 ∧ y.k = 2 ∨ x.k = 1 ∧ y.k = 1 then (cmpI x.n y.n, 0)
  else if x.k = 3 ∧ y.k = 3 then (cmpB x.s.data.toList y.s.data.toList, 0) else (0, 30)
theorem cmpI_turn (a b : Int) : cmpI b a = - cmpI a b := by
  unfold cmpI
  split <;> split <;> omega
theorem cmpV_err (x y : V) : (cmpV x y).2 = 0 ∨ (cmpV x y).2 = 30 := by
  unfold cmpV
  repeat' split
  all_goals first | exact .inl rfl | exact .inr rfl
theorem veq_turn (x y : V) : veq y x = veq x y := by
  unfold veq
  rw [Bool.eq_iff_iff]
  simp only [Bool.and_eq_true, beq_iff_eq]
  constructor <;> (rintro ⟨a, b, c⟩; exact ⟨a.symm, b.symm, c.symm⟩)
theorem cmpV_turn {x y : V} (h0 : (cmpV x y).2 = 0) (h : 0 < (cmpV x y).1) : (cmpV y x).2 = 0 ∧ (cmpV y x).1 ≤ 0 := by
  unfold cmpV at h0 h ⊢
  rw [veq_turn x y]
  by_cases e : veq x y = true
  · rw [if_pos e] at h; exact absurd h (by decide)
  · rw [if_neg e] at h h0 ⊢
    by_cases hx : x.k = 0
    · rw [if_pos hx] at h; exact absurd h (by decide)
    · rw [if_neg hx] at h h0
      by_cases hy : y.k = 0
      · rw [if_pos hy]; exact ⟨rfl, by decide⟩
      · rw [if_neg hy] at h h0 ⊢
        rw [if_neg hx]
        by_cases h2 : x.k = 2 ∧ y.k = 2 ∨ x.k = 1 ∧ y.k = 1
        · rw [if_pos h2] at h
          rw [if_pos (by omega)]
          have := cmpI_turn x.n y.n
          simp only at h ⊢
          exact ⟨trivial, by omega⟩
        · rw [if_neg h2] at h h0
          rw [if_neg (by omega)]
          by_cases h3 : x.k = 3 ∧ y.k = 3
          · rw [if_pos h3] at h
            rw [if_pos (by omega)]
            have := cmpB_turn x.s.data.toList y.s.data.toList
            simp only at h ⊢
            exact ⟨trivial, by omega⟩
          · rw [if_neg h3] at h0; exact absurd h0 (by decide)
set_option maxRecDepth 100000 in
set_option maxHeartbeats 4000000 in
theorem compare_any (x y : V) (hx : x.s.size ≤ maxLen) (hy : y.s.size ≤ maxLen) (w : World) : Calls Try.prog 17 #[x.agg, y.agg] w fun e w' => e = .returned (.tuple #[.int .i64 (cmpV x y).1, .int .i64 (cmpV x y).2]) ∧ Below w.heap.size w w' := by
  have hs := fun w => same_any x y w
  have HZ := Lib.hid (And.intro hx hy)
  by_cases hb : veq x y = true
  · have hc : cmpV x y = (0, 0) := by unfold cmpV; rw [if_pos hb]
    rw [hc]
    rw [hb] at hs
    have HS := Lib.hid hs
    clear hs hb hc hx hy
    obtain ⟨k1, n1, s1⟩ := x
    obtain ⟨k2, n2, s2⟩ := y
    unfold V.agg at HS ⊢
    go_enter Try.func17, Try.ntmps17
    go_wp2_with (go_at_call 22; refine (HS.out _).mono ?_; rintro e w1 ⟨rfl, hb1⟩; have HB1 := Lib.hid hb1; clear hb1)
    go_ret2
    exact ⟨rfl, (below_alloc (below_alloc (Below.refl _ _) _) _).trans (HB1.out.mono (by simp; omega))⟩
  · have hne : veq x y = false := by simpa using hb
    obtain ⟨r, hr⟩ : ∃ r, cmpV x y = r := ⟨_, rfl⟩
    have hr2 := hr
    unfold cmpV at hr2
    rw [if_neg hb] at hr2
    rw [hr]
    rw [hne] at hs
    have HS := Lib.hid hs
    clear hs hr hx hy
    obtain ⟨k1, n1, s1⟩ := x
    obtain ⟨k2, n2, s2⟩ := y
    unfold V.agg at HS
    simp only at hr2 HZ
    have hsz : True := trivial
    by_cases a0 : k1 = 0
    · subst a0
      rw [if_pos rfl] at hr2
      subst hr2
      clear hb hne hsz
      unfold V.agg
      go_enter Try.func17, Try.ntmps17
      go_wp2_with (first
        | (go_at_call 22; refine (HS.out _).mono ?_; rintro e w1 ⟨rfl, hb1⟩; obtain ⟨hc1, hf1⟩ := bcell hb1; have HB1 := Lib.hid hb1; clear hb1)
        | (go_at_call 23; refine (ncompare_any _ _ _).mono ?_; rintro e w' ⟨rfl, rfl⟩)
        | (go_at_call 24; refine (scompare_any _ _ HZ.out.1 HZ.out.2 _).mono ?_; rintro e w2 ⟨rfl, hb2⟩; have HB2 := Lib.hid hb2; clear hb2))
      go_ret2
      exact ⟨rfl, (below_alloc (below_alloc (Below.refl _ _) _) _).trans (HB1.out.mono (by simp; omega))⟩
    · rw [if_neg a0] at hr2
      by_cases b0 : k2 = 0
      · subst b0
        rw [if_pos rfl] at hr2
        subst hr2
        have hk10 : (k1 == 0) = false := by simp; omega
        have dk10 : decide (k1 = 0) = false := decide_eq_false (by omega)
        clear hb hne hsz
        unfold V.agg
        go_enter Try.func17, Try.ntmps17
        go_wp2_with (first
          | (go_at_call 22; refine (HS.out _).mono ?_; rintro e w1 ⟨rfl, hb1⟩; obtain ⟨hc1, hf1⟩ := bcell hb1; have HB1 := Lib.hid hb1; clear hb1)
          | (go_at_call 23; refine (ncompare_any _ _ _).mono ?_; rintro e w' ⟨rfl, rfl⟩)
          | (go_at_call 24; refine (scompare_any _ _ HZ.out.1 HZ.out.2 _).mono ?_; rintro e w2 ⟨rfl, hb2⟩; have HB2 := Lib.hid hb2; clear hb2))
        go_ret2
        exact ⟨rfl, (below_alloc (below_alloc (Below.refl _ _) _) _).trans (HB1.out.mono (by simp; omega))⟩
      · rw [if_neg b0] at hr2
        by_cases a2 : k1 = 2
        · subst a2
          by_cases b2 : k2 = 2
          · subst b2
            rw [if_pos (by omega)] at hr2
            subst hr2
            clear hb hne hsz
            unfold V.agg
            go_enter Try.func17, Try.ntmps17
            go_wp2_with (first
              | (go_at_call 22; refine (HS.out _).mono ?_; rintro e w1 ⟨rfl, hb1⟩; obtain ⟨hc1, hf1⟩ := bcell hb1; have HB1 := Lib.hid hb1; clear hb1)
              | (go_at_call 23; refine (ncompare_any _ _ _).mono ?_; rintro e w' ⟨rfl, rfl⟩)
              | (go_at_call 24; refine (scompare_any _ _ HZ.out.1 HZ.out.2 _).mono ?_; rintro e w2 ⟨rfl, hb2⟩; have HB2 := Lib.hid hb2; clear hb2))
            go_ret2
            exact ⟨rfl, (below_alloc (below_alloc (Below.refl _ _) _) _).trans (HB1.out.mono (by simp; omega))⟩
          · rw [if_neg (by omega), if_neg (by omega)] at hr2
            subst hr2
            have hk20 : (k2 == 0) = false := by simp; omega
            have dk20 : decide (k2 = 0) = false := decide_eq_false (by omega)
            have hk22 : (k2 == 2) = false := by simp; omega
            have dk22 : decide (k2 = 2) = false := decide_eq_false (by omega)
            clear hb hne hsz
            unfold V.agg
            go_enter Try.func17, Try.ntmps17
            go_wp2_with (first
              | (go_at_call 22; refine (HS.out _).mono ?_; rintro e w1 ⟨rfl, hb1⟩; obtain ⟨hc1, hf1⟩ := bcell hb1; have HB1 := Lib.hid hb1; clear hb1)
              | (go_at_call 23; refine (ncompare_any _ _ _).mono ?_; rintro e w' ⟨rfl, rfl⟩)
              | (go_at_call 24; refine (scompare_any _ _ HZ.out.1 HZ.out.2 _).mono ?_; rintro e w2 ⟨rfl, hb2⟩; have HB2 := Lib.hid hb2; clear hb2))
            go_ret2
            exact ⟨rfl, (below_alloc (below_alloc (Below.refl _ _) _) _).trans (HB1.out.mono (by simp; omega))⟩
        · by_cases a1 : k1 = 1
          · subst a1
            by_cases b1 : k2 = 1
            · subst b1
              rw [if_pos (by omega)] at hr2
              subst hr2
              clear hb hne hsz
              unfold V.agg
              go_enter Try.func17, Try.ntmps17
              go_wp2_with (first
                | (go_at_call 22; refine (HS.out _).mono ?_; rintro e w1 ⟨rfl, hb1⟩; obtain ⟨hc1, hf1⟩ := bcell hb1; have HB1 := Lib.hid hb1; clear hb1)
                | (go_at_call 23; refine (ncompare_any _ _ _).mono ?_; rintro e w' ⟨rfl, rfl⟩)
                | (go_at_call 24; refine (scompare_any _ _ HZ.out.1 HZ.out.2 _).mono ?_; rintro e w2 ⟨rfl, hb2⟩; have HB2 := Lib.hid hb2; clear hb2))
              go_ret2
              exact ⟨rfl, (below_alloc (below_alloc (Below.refl _ _) _) _).trans (HB1.out.mono (by simp; omega))⟩
            · rw [if_neg (by omega), if_neg (by omega)] at hr2
              subst hr2
              have hk20 : (k2 == 0) = false := by simp; omega
              have dk20 : decide (k2 = 0) = false := decide_eq_false (by omega)
              have hk21 : (k2 == 1) = false := by simp; omega
              have dk21 : decide (k2 = 1) = false := decide_eq_false (by omega)
              clear hb hne hsz
              unfold V.agg
              go_enter Try.func17, Try.ntmps17
              go_wp2_with (first
                | (go_at_call 22; refine (HS.out _).mono ?_; rintro e w1 ⟨rfl, hb1⟩; obtain ⟨hc1, hf1⟩ := bcell hb1; have HB1 := Lib.hid hb1; clear hb1)
                | (go_at_call 23; refine (ncompare_any _ _ _).mono ?_; rintro e w' ⟨rfl, rfl⟩)
                | (go_at_call 24; refine (scompare_any _ _ HZ.out.1 HZ.out.2 _).mono ?_; rintro e w2 ⟨rfl, hb2⟩; have HB2 := Lib.hid hb2; clear hb2))
              go_ret2
              exact ⟨rfl, (below_alloc (below_alloc (Below.refl _ _) _) _).trans (HB1.out.mono (by simp; omega))⟩
          · by_cases a3 : k1 = 3
            · subst a3
              by_cases b3 : k2 = 3
              · subst b3
                rw [if_neg (by omega), if_pos (by omega)] at hr2
                subst hr2
                clear hb hne hsz
                unfold V.agg
                go_enter Try.func17, Try.ntmps17
                go_wp2_with (first
                  | (go_at_call 22; refine (HS.out _).mono ?_; rintro e w1 ⟨rfl, hb1⟩; obtain ⟨hc1, hf1⟩ := bcell hb1; have HB1 := Lib.hid hb1; clear hb1)
                  | (go_at_call 23; refine (ncompare_any _ _ _).mono ?_; rintro e w' ⟨rfl, rfl⟩)
                  | (go_at_call 24; refine (scompare_any _ _ HZ.out.1 HZ.out.2 _).mono ?_; rintro e w2 ⟨rfl, hb2⟩; have HB2 := Lib.hid hb2; clear hb2))
                go_ret2
                exact ⟨rfl, ((below_alloc (below_alloc (Below.refl _ _) _) _).trans (HB1.out.mono (by simp; omega))).trans (HB2.out.mono (by have := HB1.out.size; simp at this; omega))⟩
              · rw [if_neg (by omega), if_neg (by omega)] at hr2
                subst hr2
                have hk20 : (k2 == 0) = false := by simp; omega
                have dk20 : decide (k2 = 0) = false := decide_eq_false (by omega)
                have hk23 : (k2 == 3) = false := by simp; omega
                have dk23 : decide (k2 = 3) = false := decide_eq_false (by omega)
                clear hb hne hsz
                unfold V.agg
                go_enter Try.func17, Try.ntmps17
                go_wp2_with (first
                  | (go_at_call 22; refine (HS.out _).mono ?_; rintro e w1 ⟨rfl, hb1⟩; obtain ⟨hc1, hf1⟩ := bcell hb1; have HB1 := Lib.hid hb1; clear hb1)
                  | (go_at_call 23; refine (ncompare_any _ _ _).mono ?_; rintro e w' ⟨rfl, rfl⟩)
                  | (go_at_call 24; refine (scompare_any _ _ HZ.out.1 HZ.out.2 _).mono ?_; rintro e w2 ⟨rfl, hb2⟩; have HB2 := Lib.hid hb2; clear hb2))
                go_ret2
                exact ⟨rfl, (below_alloc (below_alloc (Below.refl _ _) _) _).trans (HB1.out.mono (by simp; omega))⟩
            · rw [if_neg (by omega), if_neg (by omega)] at hr2
              subst hr2
              have hk10 : (k1 == 0) = false := by simp; omega
              have dk10 : decide (k1 = 0) = false := decide_eq_false (by omega)
              have hk11 : (k1 == 1) = false := by simp; omega
              have dk11 : decide (k1 = 1) = false := decide_eq_false (by omega)
              have hk12 : (k1 == 2) = false := by simp; omega
              have dk12 : decide (k1 = 2) = false := decide_eq_false (by omega)
              have hk13 : (k1 == 3) = false := by simp; omega
              have dk13 : decide (k1 = 3) = false := decide_eq_false (by omega)
              have hk20 : (k2 == 0) = false := by simp; omega
              have dk20 : decide (k2 = 0) = false := decide_eq_false (by omega)
              clear hb hne hsz
              unfold V.agg
              go_enter Try.func17, Try.ntmps17
              go_wp2_with (first
                | (go_at_call 22; refine (HS.out _).mono ?_; rintro e w1 ⟨rfl, hb1⟩; obtain ⟨hc1, hf1⟩ := bcell hb1; have HB1 := Lib.hid hb1; clear hb1)
                | (go_at_call 23; refine (ncompare_any _ _ _).mono ?_; rintro e w' ⟨rfl, rfl⟩)
                | (go_at_call 24; refine (scompare_any _ _ HZ.out.1 HZ.out.2 _).mono ?_; rintro e w2 ⟨rfl, hb2⟩; have HB2 := Lib.hid hb2; clear hb2))
              go_ret2
              exact ⟨rfl, (below_alloc (below_alloc (Below.refl _ _) _) _).trans (HB1.out.mono (by simp; omega))⟩
end Go.Proofs.Ytecoghabjcnbnaa
