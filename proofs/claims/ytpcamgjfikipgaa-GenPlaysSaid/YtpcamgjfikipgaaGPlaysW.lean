/- The walk of dreylaw25.GenPlays. Condition: the list as it came in. -/
import Derived.Test.YtpcamgjfikipgaaPlayOps
import Derived.Test.YtpcamgjfikipgaaPairs
import Derived.Deep.RegionHeld3
import Derived.Deep.CutBlock
import Derived.Deep.DeepCutAuto
namespace Go.Proofs.Ytpcamgjfikipgaa
open Go.RowKit
set_option linter.unusedVariables false
set_option maxRecDepth 100000 in
theorem gplays_big {w : World} {A : Option Addr} {n c : Nat} (h : 100 < n) (hn : n ≤ 9223372036854775807) :
    Calls Try.prog 9 #[.slice A n c] w fun e w' => e = .returned (.bool true) ∧ Below w.heap.size w w' := by
  have q : decide (100 < (n : Int)) = true := decide_eq_true (by omega)
  clear h
  go_enter Try.func9, Try.ntmps9
  go_wp2_with (go_at_call 39; refine (ggoes_any _).mono ?_; rintro e w1 ⟨rfl, hb1⟩; have HB1 := Lib.hid hb1; clear hb1)
  go_ret
  exact ⟨rfl, HB1.out⟩
set_option maxRecDepth 100000 in
set_option maxHeartbeats 16000000 in
theorem gplays_walk {w : World} {A : Option Addr} {n c : Nat} {acts : List (Int × Int)} (hc : Rd w A n 2 (pcs acts)) (hn : n ≤ 100) :
    Calls Try.prog 9 #[.slice A n c] w fun e w' => e = .returned (.bool true) ∧ Below w.heap.size w w' := by
  have q : decide (100 < (n : Int)) = false := decide_eq_false (by omega)
  have HC := Lib.hid hc
  clear hc
  have hmm := @run_makeMap Try.prog
  obtain ⟨j40, hj40, hj1⟩ := Option.map_eq_some_iff.1 info40
  clear hj1
  go_enter Try.func9, Try.ntmps9
  go_wp2_with (first
    | (go_at_call 39; refine (ggoes_any _).mono ?_; rintro e w1 ⟨rfl, hb1⟩; have HB1 := Lib.hid hb1; clear hb1)
    | (go_at_call 41; refine (new_gens _).mono ?_; rintro e w2 ⟨g, mb, rfl, hgs, hb2⟩; have H2 := Lib.hid (And.intro hgs hb2); clear hgs hb2))
  clear hmm
  have hpl : Play w ((w2.alloc (.map #[] 0)).alloc (.map #[] 0)) g mb w1.heap.size w2.heap.size (w2.heap.size + 1) (fun _ => none) (fun _ => none) 0 := by
    have hz := H2.out.2.size
    have hz1 := HB1.out.size
    have hm := H2.out.1.im.lt
    refine ⟨(H2.out.1.below (below_alloc (below_alloc (Below.refl _ _) _) _)), (IM.new elI w2).below (below_alloc (Below.refl _ _) _), ?_, fun _ => rfl, fun k x b hx => (by cases hx), by omega, by omega, by omega, ⟨hz, by omega, hz1⟩, HB1.out.trans ((below_alloc (below_alloc H2.out.2 _) _).mono hz1)⟩
    have := IM.new elP (w2.alloc (.map #[] 0))
    simpa using this
  have HP := Lib.hid hpl
  clear hpl
  go_loopw [27] (fun t wr => ∃ (k : Nat) (f : Int → Option GE) (fb : Int → Option Nat) (sz : Nat), k ≤ n ∧ t = .int .i64 k ∧ sz ≤ k ∧ Play w wr g mb w1.heap.size w2.heap.size (w2.heap.size + 1) f fb sz) (fun t _ => n - (intOf t).toNat)
  case atStart => exact ⟨0, _, _, 0, Nat.zero_le _, rfl, Nat.le_refl _, HP.out⟩
  case round =>
    obtain ⟨k, f, fb, sz, hk, rfl, hsz, hp⟩ := hrel
    have H := Lib.hid hp
    have hcr := HC.out.below hp.bel
    clear hp
    by_cases hlt : k < n
    · obtain ⟨b0, o0, ⟨a, cell⟩, rfl, hxb, hx, x0, x1⟩ := RdP.at_ hcr hlt
      have z1 : (0 : Int) ≤ (k : Int) := by omega
      have z2 : (k : Int) < (n : Int) := by omega
      simp only at x0 x1
      clear hcr hx
      by_cases hcell : 0 ≤ cell ∧ cell ≤ 8
      · have q1 : decide (cell < 0) = false := decide_eq_false (by omega)
        have q2 : decide (8 < cell) = false := decide_eq_false (by omega)
        have hwf : wfk cell := WalkArith.wf_i64 ⟨by omega, by omega⟩
        have hl2 := (H.out.st.below (below_alloc (Below.refl _ _) (.cells #[.int .i64 a, .int .i64 cell] 88))).look2 Try.underlying86 (z := (0 : Int)) zero3 hwf
        have H1 := Lib.hid (H.out.below (below_alloc (Below.refl _ _) (.cells #[.int .i64 a, .int .i64 cell] 88)))
        go_upto_block 2 with fail
        go_cut [9, 10] (fun s9 s10 wx => ∃ (f : Int → Option GE) (fb : Int → Option Nat) (sz : Nat), sz ≤ k + 1 ∧ Play w wx g mb w1.heap.size w2.heap.size (w2.heap.size + 1) f fb sz)
        case first =>
          by_cases h0 : a = 0
          · subst h0
            rcases hf : f cell with _ | x
            · simp only [Option.map_none, Option.getD_none, Option.isSome_none, elI_val]
              have HF := Lib.hid hf
              have HA := Lib.hid (H1.out.below (below_alloc (below_alloc (Below.refl _ _) (.cells #[.int .i64 0, .int .i64 0, .string ⟨#[]⟩] 25)) (.cells #[.int .i64 2, .int .i64 cell, .string ⟨#[]⟩] 25)))
              clear hf hl2
              as_aux_lemma =>
                go_wp2_with (first
                | (go_at_call 18; refine (null_any _).mono ?_; rintro e w3 ⟨rfl, rfl⟩; unfold V.agg V.null)
                | (go_at_call 14; refine (int_any _ _).mono ?_; rintro e w3 ⟨rfl, rfl⟩; unfold V.agg V.int; try simp only)
                | (go_at_call 16; refine (new_fr _ _ _ _ _ _ _ _ 2 _ V.null (V.int cell) _ (by omega)).mono ?_; rintro e w3 ⟨b, R, rfl, hbb, hRR, hfr, hbe⟩; have H3 := Lib.hid (And.intro hbb (And.intro hRR (And.intro hfr hbe))); clear hbb hRR hfr hbe)
                | (go_at_call 42; refine (p_add HA.out hwf HF.out (by omega) H3.out.2.2.2 H3.out.1 H3.out.2.1 H3.out.2.2.1).mono ?_; rintro e w4 ⟨rfl, w5, w6, f', fb', hr5, hr6, hp6⟩; have H6 := Lib.hid hp6; clear hp6))
                go_meet
                exact ⟨_, _, _, by omega, H6.out⟩
            · simp only [Option.map_some, Option.getD_some, Option.isSome_some, elI_val]
              clear hf hl2
              as_aux_lemma =>
               go_wp2
               exact ⟨⟨k + 1, f, fb, sz, by omega, by go_num, by omega, H1.out⟩, by simp [intOf]; omega⟩
          have n0 : (a == 0) = false := by simpa using h0
          have m0 : decide (a = 0) = false := decide_eq_false h0
          by_cases h1 : a = 1
          · subst h1
            rcases hf : f cell with _ | x
            · simp only [Option.map_none, Option.getD_none, Option.isSome_none, elI_val]
              have HF := Lib.hid hf
              have hfb : fb cell = none := by have := H1.out.dom cell; rw [hf] at this; cases hq : fb cell with | none => rfl | some q => rw [hq] at this; cases this
              have hl87 := H1.out.fr.look Try.underlying87 zero35 hwf
              rw [hfb] at hl87
              simp only [Option.map_none, Option.getD_none, elP_none] at hl87
              clear hf hfb hl2
              as_aux_lemma =>
                have hnn := fun W => run_neq_nil_nil (P := Try.prog) W (tp := 35) Try.underlying35
                go_wp2_with (go_at_call 43; refine (p_resume_none H1.out hwf HF.out).mono ?_; rintro e w3 ⟨rfl, hp3⟩; have H3 := Lib.hid hp3; clear hp3)
                go_meet
                exact ⟨_, _, _, by omega, H3.out⟩
            · simp only [Option.map_some, Option.getD_some, Option.isSome_some, elI_val]
              obtain ⟨b, hfb, hfit, _⟩ := H1.out.frame hf
              obtain ⟨e, fr, st⟩ := x
              have HFB := Lib.hid hfb
              have hl87 := H1.out.fr.look Try.underlying87 zero35 hwf
              rw [hfb] at hl87
              simp only [Option.map_some, Option.getD_some, elP_some] at hl87
              simp only at hfit
              rcases hfit with ⟨e0, e1⟩ | ⟨e0, e1⟩ | ⟨e0, e1⟩
              · subst e0 e1
                have HF := Lib.hid hf
                clear hf hfb hl2
                as_aux_lemma =>
                  have hsame := fun W => Lib.run_neq_ptr_same (P := Try.prog) W (tp := 35) ⟨b, 0, none⟩ Try.underlying35 hj40
                  clear hl87
                  go_wp2_with (go_at_call 43; refine (p_resume_0 H1.out hwf (by omega) HF.out HFB.out).mono ?_; rintro e w3 ⟨rfl, hfr3, w4, hr4, hp4⟩; have hl3 := hfr3.look Try.underlying87 zero35 hwf; rw [HFB.out] at hl3; simp only [Option.map_some, Option.getD_some, elP_some] at hl3; have H4 := Lib.hid hp4; clear hp4 hfr3)
                  go_meet
                  exact ⟨_, _, _, by omega, H4.out⟩
              · subst e0 e1
                have HF := Lib.hid hf
                clear hf hfb hl2
                as_aux_lemma =>
                  have hnn := fun W => run_neq_nil_nil (P := Try.prog) W (tp := 35) Try.underlying35
                  go_wp2_with (go_at_call 43; refine (p_resume_1 H1.out hwf HF.out).mono ?_; rintro e w3 ⟨rfl, hp3⟩; have H3 := Lib.hid hp3; clear hp3)
                  go_meet
                  exact ⟨_, _, _, by omega, H3.out⟩
              · subst e0 e1
                have HF := Lib.hid hf
                clear hf hfb hl2
                as_aux_lemma =>
                  have hnn := fun W => run_neq_nil_nil (P := Try.prog) W (tp := 35) Try.underlying35
                  go_wp2_with (go_at_call 43; refine (p_resume_2 H1.out hwf HF.out).mono ?_; rintro e w3 ⟨rfl, hp3⟩; have H3 := Lib.hid hp3; clear hp3)
                  go_meet
                  exact ⟨_, _, _, by omega, H3.out⟩
          have n1 : (a == 1) = false := by simpa using h1
          have m1 : decide (a = 1) = false := decide_eq_false h1
          by_cases h2 : a = 2
          · subst h2
            rcases hf : f cell with _ | x
            · simp only [Option.map_none, Option.getD_none, Option.isSome_none, elI_val]
              have HF := Lib.hid hf
              have hfb : fb cell = none := by have := H1.out.dom cell; rw [hf] at this; cases hq : fb cell with | none => rfl | some q => rw [hq] at this; cases this
              have hl87 := H1.out.fr.look Try.underlying87 zero35 hwf
              rw [hfb] at hl87
              simp only [Option.map_none, Option.getD_none, elP_none] at hl87
              clear hf hfb hl2
              as_aux_lemma =>
                go_wp2
                go_meet
                exact ⟨_, _, _, by omega, H1.out⟩
            · simp only [Option.map_some, Option.getD_some, Option.isSome_some, elI_val]
              obtain ⟨b, hfb, hfit, _⟩ := H1.out.frame hf
              obtain ⟨e, fr, st⟩ := x
              have HFB := Lib.hid hfb
              have hl87 := H1.out.fr.look Try.underlying87 zero35 hwf
              rw [hfb] at hl87
              simp only [Option.map_some, Option.getD_some, elP_some] at hl87
              simp only at hfit
              rcases hfit with ⟨e0, e1⟩ | ⟨e0, e1⟩ | ⟨e0, e1⟩
              · subst e0 e1
                have HF := Lib.hid hf
                clear hf hfb hl2
                as_aux_lemma =>
                  go_wp2_with (go_at_call 44; refine (p_susp_02 H1.out hwf (by decide) HF.out HFB.out).mono ?_; rintro e w3 ⟨rfl, hp3⟩; have H3 := Lib.hid hp3; clear hp3)
                  go_meet
                  exact ⟨_, _, _, by omega, H3.out⟩
              · subst e0 e1
                have HF := Lib.hid hf
                clear hf hfb hl2
                as_aux_lemma =>
                  go_wp2_with (go_at_call 44; refine (p_susp_1 H1.out hwf (by omega) HF.out HFB.out).mono ?_; rintro e w3 ⟨rfl, w4, hr4, hp4⟩; have H4 := Lib.hid hp4; clear hp4)
                  go_meet
                  exact ⟨_, _, _, by omega, H4.out⟩
              · subst e0 e1
                have HF := Lib.hid hf
                clear hf hfb hl2
                as_aux_lemma =>
                  go_wp2_with (go_at_call 44; refine (p_susp_02 H1.out hwf (by decide) HF.out HFB.out).mono ?_; rintro e w3 ⟨rfl, hp3⟩; have H3 := Lib.hid hp3; clear hp3)
                  go_meet
                  exact ⟨_, _, _, by omega, H3.out⟩
          have n2 : (a == 2) = false := by simpa using h2
          have m2 : decide (a = 2) = false := decide_eq_false h2
          by_cases h3 : a = 3
          · subst h3
            rcases hf : f cell with _ | x
            · simp only [Option.map_none, Option.getD_none, Option.isSome_none, elI_val]
              have HF := Lib.hid hf
              have hfb : fb cell = none := by have := H1.out.dom cell; rw [hf] at this; cases hq : fb cell with | none => rfl | some q => rw [hq] at this; cases this
              have hl87 := H1.out.fr.look Try.underlying87 zero35 hwf
              rw [hfb] at hl87
              simp only [Option.map_none, Option.getD_none, elP_none] at hl87
              clear hf hfb hl2
              as_aux_lemma =>
                go_wp2_with (go_at_call 45; refine (p_end_none H1.out hwf HF.out).mono ?_; rintro e w3 ⟨rfl, hp3⟩; have H3 := Lib.hid hp3; clear hp3)
                go_meet
                exact ⟨_, _, _, by omega, H3.out⟩
            · simp only [Option.map_some, Option.getD_some, Option.isSome_some, elI_val]
              obtain ⟨b, hfb, hfit, _⟩ := H1.out.frame hf
              obtain ⟨e, fr, st⟩ := x
              have HFB := Lib.hid hfb
              have hl87 := H1.out.fr.look Try.underlying87 zero35 hwf
              rw [hfb] at hl87
              simp only [Option.map_some, Option.getD_some, elP_some] at hl87
              simp only at hfit
              rcases hfit with ⟨e0, e1⟩ | ⟨e0, e1⟩ | ⟨e0, e1⟩
              · subst e0 e1
                have HF := Lib.hid hf
                clear hf hfb hl2
                as_aux_lemma =>
                  go_wp2_with (go_at_call 45; refine (p_end_some H1.out hwf (by omega) HF.out).mono ?_; rintro e w3 ⟨rfl, w4, hr4, hp4⟩; have H4 := Lib.hid hp4; clear hp4)
                  go_meet
                  exact ⟨_, _, _, by omega, H4.out⟩
              · subst e0 e1
                have HF := Lib.hid hf
                clear hf hfb hl2
                as_aux_lemma =>
                  go_wp2_with (go_at_call 45; refine (p_end_some H1.out hwf (by omega) HF.out).mono ?_; rintro e w3 ⟨rfl, w4, hr4, hp4⟩; have H4 := Lib.hid hp4; clear hp4)
                  go_meet
                  exact ⟨_, _, _, by omega, H4.out⟩
              · subst e0 e1
                have HF := Lib.hid hf
                clear hf hfb hl2
                as_aux_lemma =>
                  go_wp2_with (go_at_call 45; refine (p_end_some H1.out hwf (by omega) HF.out).mono ?_; rintro e w3 ⟨rfl, w4, hr4, hp4⟩; have H4 := Lib.hid hp4; clear hp4)
                  go_meet
                  exact ⟨_, _, _, by omega, H4.out⟩
          have n3 : (a == 3) = false := by simpa using h3
          have m3 : decide (a = 3) = false := decide_eq_false h3
          by_cases h4 : a = 4
          · subst h4
            rcases hf : f cell with _ | x
            · simp only [Option.map_none, Option.getD_none, Option.isSome_none, elI_val]
              have HF := Lib.hid hf
              have hfb : fb cell = none := by have := H1.out.dom cell; rw [hf] at this; cases hq : fb cell with | none => rfl | some q => rw [hq] at this; cases this
              have hl87 := H1.out.fr.look Try.underlying87 zero35 hwf
              rw [hfb] at hl87
              simp only [Option.map_none, Option.getD_none, elP_none] at hl87
              clear hf hfb hl2
              as_aux_lemma =>
                go_wp2_with (go_at_call 46; refine (p_drop (d := 0) H1.out hwf (by rw [HF.out]; rfl)).mono ?_; rintro e w3 ⟨rfl, w4, w5, hr4, hr5, hp5⟩; have H5 := Lib.hid hp5; clear hp5)
                go_meet
                exact ⟨_, _, _, by split <;> omega, H5.out⟩
            · simp only [Option.map_some, Option.getD_some, Option.isSome_some, elI_val]
              obtain ⟨b, hfb, hfit, _⟩ := H1.out.frame hf
              obtain ⟨e, fr, st⟩ := x
              have HFB := Lib.hid hfb
              have hl87 := H1.out.fr.look Try.underlying87 zero35 hwf
              rw [hfb] at hl87
              simp only [Option.map_some, Option.getD_some, elP_some] at hl87
              simp only at hfit
              rcases hfit with ⟨e0, e1⟩ | ⟨e0, e1⟩ | ⟨e0, e1⟩
              · subst e0 e1
                have HF := Lib.hid hf
                clear hf hfb hl2
                as_aux_lemma =>
                  go_wp2_with (go_at_call 46; refine (p_drop (d := 1) H1.out hwf (by rw [HF.out]; rfl)).mono ?_; rintro e w3 ⟨rfl, w4, w5, hr4, hr5, hp5⟩; have H5 := Lib.hid hp5; clear hp5)
                  go_meet
                  exact ⟨_, _, _, by split <;> omega, H5.out⟩
              · subst e0 e1
                have HF := Lib.hid hf
                clear hf hfb hl2
                as_aux_lemma =>
                  go_wp2_with (go_at_call 46; refine (p_drop (d := 0) H1.out hwf (by rw [HF.out]; rfl)).mono ?_; rintro e w3 ⟨rfl, w4, w5, hr4, hr5, hp5⟩; have H5 := Lib.hid hp5; clear hp5)
                  go_meet
                  exact ⟨_, _, _, by split <;> omega, H5.out⟩
              · subst e0 e1
                have HF := Lib.hid hf
                clear hf hfb hl2
                as_aux_lemma =>
                  go_wp2_with (go_at_call 46; refine (p_drop (d := 0) H1.out hwf (by rw [HF.out]; rfl)).mono ?_; rintro e w3 ⟨rfl, w4, w5, hr4, hr5, hp5⟩; have H5 := Lib.hid hp5; clear hp5)
                  go_meet
                  exact ⟨_, _, _, by split <;> omega, H5.out⟩
          have n4 : (a == 4) = false := by simpa using h4
          have m4 : decide (a = 4) = false := decide_eq_false h4
          clear hl2
          as_aux_lemma =>
            go_wp2
            go_meet
            exact ⟨_, _, _, by omega, H1.out⟩
        case rest =>
          obtain ⟨f', fb', sz', hsz', hp'⟩ := hcut
          have H5 := Lib.hid hp'
          have hl5 := hp'.st.look2 Try.underlying86 (z := (0 : Int)) zero3 hwf
          clear hp' hl2
          rcases hf : f' cell with _ | x
          · have HF := Lib.hid hf
            rw [hf] at hl5
            simp only [Option.map_none, Option.getD_none, Option.isSome_none, elI_val] at hl5
            have hno : ∀ x, f' cell = some x → x.fr = none := fun x hx => by rw [hf] at hx; cases hx
            have HNO := Lib.hid hno
            clear hf hno
            as_aux_lemma =>
             go_wp2_with (first
              | (go_at_call 47; refine (p_state_none H5.out hwf HF.out).mono ?_; rintro e w6 ⟨rfl, rfl⟩)
              | (go_at_call 48; refine (p_values_no H5.out hwf HNO.out).mono ?_; rintro e w7 ⟨rfl, hb7⟩; have H7 := Lib.hid (H5.out.below hb7); clear hb7)
              | (go_at_call 49; refine (p_cells H7.out (by omega)).mono ?_; rintro e w8 ⟨A8, c8, rfl, hp8, hlen⟩; have H8 := Lib.hid hp8; clear hp8))
             exact ⟨⟨k + 1, f', fb', sz', by omega, by go_num, by omega, H8.out⟩, by simp [intOf]; omega⟩
          · obtain ⟨b, hfb, hfit, _⟩ := H5.out.frame hf
            obtain ⟨e, fr, st⟩ := x
            have HFB := Lib.hid hfb
            rw [hf] at hl5
            simp only [Option.map_some, Option.getD_some, Option.isSome_some, elI_val] at hl5
            simp only at hfit
            rcases hfit with ⟨e0, e1⟩ | ⟨e0, e1⟩ | ⟨e0, e1⟩
            · subst e0 e1
              have HF := Lib.hid hf
              clear hf hfb
              as_aux_lemma =>
               go_wp2_with (first
                | (go_at_call 47; refine (p_state_some H5.out hwf HF.out).mono ?_; rintro e w6 ⟨rfl, rfl⟩)
                | (go_at_call 48; refine (p_values_yes H5.out hwf hcell.1 HF.out HFB.out).mono ?_; rintro e w7 ⟨A7, c7, rfl, hb7⟩; have H7 := Lib.hid (H5.out.below hb7); clear hb7)
                | (go_at_call 49; refine (p_cells H7.out (by omega)).mono ?_; rintro e w8 ⟨A8, c8, rfl, hp8, hlen⟩; have H8 := Lib.hid hp8; clear hp8))
               exact ⟨⟨k + 1, f', fb', sz', by omega, by go_num, by omega, H8.out⟩, by simp [intOf]; omega⟩
            · subst e0 e1
              have HF := Lib.hid hf
              have hno : ∀ x, f' cell = some x → x.fr = none := fun x hx => by rw [hf] at hx; injection hx with hx; subst hx; rfl
              have HNO := Lib.hid hno
              clear hf hfb hno
              as_aux_lemma =>
               go_wp2_with (first
                | (go_at_call 47; refine (p_state_some H5.out hwf HF.out).mono ?_; rintro e w6 ⟨rfl, rfl⟩)
                | (go_at_call 48; refine (p_values_no H5.out hwf HNO.out).mono ?_; rintro e w7 ⟨rfl, hb7⟩; have H7 := Lib.hid (H5.out.below hb7); clear hb7)
                | (go_at_call 49; refine (p_cells H7.out (by omega)).mono ?_; rintro e w8 ⟨A8, c8, rfl, hp8, hlen⟩; have H8 := Lib.hid hp8; clear hp8))
               exact ⟨⟨k + 1, f', fb', sz', by omega, by go_num, by omega, H8.out⟩, by simp [intOf]; omega⟩
            · subst e0 e1
              have HF := Lib.hid hf
              have hno : ∀ x, f' cell = some x → x.fr = none := fun x hx => by rw [hf] at hx; injection hx with hx; subst hx; rfl
              have HNO := Lib.hid hno
              clear hf hfb hno
              as_aux_lemma =>
               go_wp2_with (first
                | (go_at_call 47; refine (p_state_some H5.out hwf HF.out).mono ?_; rintro e w6 ⟨rfl, rfl⟩)
                | (go_at_call 48; refine (p_values_no H5.out hwf HNO.out).mono ?_; rintro e w7 ⟨rfl, hb7⟩; have H7 := Lib.hid (H5.out.below hb7); clear hb7)
                | (go_at_call 49; refine (p_cells H7.out (by omega)).mono ?_; rintro e w8 ⟨A8, c8, rfl, hp8, hlen⟩; have H8 := Lib.hid hp8; clear hp8))
               exact ⟨⟨k + 1, f', fb', sz', by omega, by go_num, by omega, H8.out⟩, by simp [intOf]; omega⟩
      · by_cases hneg : cell < 0
        · have q1 : decide (cell < 0) = true := decide_eq_true hneg
          have H1 := Lib.hid (H.out.below (below_alloc (Below.refl _ _) (.cells #[.int .i64 a, .int .i64 cell] 88)))
          clear hneg hcell
          go_wp2
          exact ⟨⟨k + 1, f, fb, sz, by omega, by go_num, by omega, H1.out⟩, by simp [intOf]; omega⟩
        · have q1 : decide (cell < 0) = false := decide_eq_false hneg
          have q2 : decide (8 < cell) = true := decide_eq_true (by omega)
          have H1 := Lib.hid (H.out.below (below_alloc (Below.refl _ _) (.cells #[.int .i64 a, .int .i64 cell] 88)))
          clear hneg hcell
          go_wp2
          exact ⟨⟨k + 1, f, fb, sz, by omega, by go_num, by omega, H1.out⟩, by simp [intOf]; omega⟩
    · have z5 : decide ((k : Int) < (n : Int)) = false := decide_eq_false (by omega)
      clear hcr
      go_wp2
      go_ret
      exact ⟨rfl, H.out.bel⟩
end Go.Proofs.Ytpcamgjfikipgaa
