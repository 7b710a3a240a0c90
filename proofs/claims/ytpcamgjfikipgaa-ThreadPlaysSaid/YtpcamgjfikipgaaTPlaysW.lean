import Derived.Test.YtpcamgjfikipgaaTPlayRel
import Derived.Test.YtpcamgjfikipgaaPairs
import Derived.Test.YtpcamgjfikipgaaEqs
import Derived.Deep.RegionHeld3
import Derived.Deep.CutBlock
import Derived.Deep.DeepCutAuto
namespace Go.Proofs.Ytpcamgjfikipgaa
open Go.RowKit
set_option linter.unusedVariables false
set_option maxRecDepth 100000 in
theorem tplays_big {w : World} {A : Option Addr} {n c : Nat} (h : 100 < n) (hn : n ≤ 9223372036854775807) :
    Calls Try.prog 11 #[.slice A n c] w fun e w' => e = .returned (.bool true) ∧ Below w.heap.size w w' := by
  have q : decide (100 < (n : Int)) = true := decide_eq_true (by omega)
  clear h
  go_enter Try.func11, Try.ntmps11
  go_wp2_with (go_at_call 59; refine (tgoes_any _).mono ?_; rintro e w1 ⟨rfl, hb1⟩; have HB1 := Lib.hid hb1; clear hb1)
  go_ret
  exact ⟨rfl, HB1.out⟩
theorem Bw.of {w W : World} (k : Kp (fun _ => False) w W) : Below w.heap.size w W := k.below (fun _ _ h => h)
theorem bdN {B : Nat} {a w : World} (h : Below B a w) (n : Nat) : Below B a (w.drewN n) := ⟨h.os, h.tape, h.output, h.size, h.block⟩
/-- As it begins. -/
theorem tp_begin {w w1 w2 : World} {t mb me : Nat} {rv : Value} (hb1 : Below w.heap.size w w1) (hts : TS w2 t mb w1.heap.size (mainE me) (fun _ => none) 0 rv [me]) (hb2 : Below w1.heap.size w1 w2) : TP 0 w ((w2.alloc (.map #[] 0)).alloc (.cells #[.int .i64 (-1)] 3)) t mb w1.heap.size me w2.heap.size (.slice (some ⟨w2.heap.size + 1, 0, none⟩) 1 1) := by
  have hz := hb2.size
  have hz1 := hb1.size
  have hm := hts.im.lt
  have b2 : Below w2.heap.size w2 ((w2.alloc (.map #[] 0)).alloc (.cells #[.int .i64 (-1)] 3)) := below_alloc (below_alloc (Below.refl _ _) _) _
  refine ⟨fun _ => none, fun _ => none, 0, rv, [], by omega, by simp, hts.below b2, (IM.new elI w2).below (below_alloc (Below.refl _ _) _), fun k x hx => (by cases hx), fun k x hx => (by cases hx), fun k k' q q' hx => (by cases hx), fun p hp => (by cases hp), by simp, fun k x hx => (by cases hx), by omega, ?_, ⟨hz, hz1⟩, hb1.trans ((hb2.trans (b2.mono hz)).mono hz1)⟩
  exact ⟨rfl, .inr ⟨w2.heap.size + 1, 1, #[.int .i64 (-1)], rfl, by show w1.heap.size ≤ w2.heap.size + 1; omega, by have := heap_alloc_new (w2.alloc (.map #[] 0)) (.cells #[.int .i64 (-1)] 3); simpa using this, Nat.le_refl _, by unfold maxLen; omega, by simp, by simp [mil]⟩⟩
set_option maxRecDepth 100000 in
set_option maxHeartbeats 16000000 in
theorem tplays_walk {w : World} {A : Option Addr} {n c : Nat} {acts : List (Int × Int)} (hc : Rd w A n 2 (pcs acts)) (hn : n ≤ 100) :
    Calls Try.prog 11 #[.slice A n c] w fun e w' => e = .returned (.bool true) ∧ Below w.heap.size w w' := by
  have q : decide (100 < (n : Int)) = false := decide_eq_false (by omega)
  have HC := Lib.hid hc
  clear hc
  have hmm := @run_makeMap Try.prog
  obtain ⟨j40, hj40, hj1⟩ := Option.map_eq_some_iff.1 info40
  clear hj1
  go_enter Try.func11, Try.ntmps11
  go_wp2_with (first
    | (go_at_call 59; refine (tgoes_any _).mono ?_; rintro e w1 ⟨rfl, hb1⟩; have HB1 := Lib.hid hb1; clear hb1)
    | (go_at_call 50; refine (threads_new _).mono ?_; rintro e w2 ⟨t, mb, me, rv, rfl, hts, hb2⟩; have H2 := Lib.hid (And.intro hts hb2); clear hts hb2))
  clear hmm
  have HP := Lib.hid (tp_begin HB1.out H2.out.1 H2.out.2)
  go_loopw [5, 29] (fun v t29 wr => ∃ (k : Nat), k ≤ n ∧ t29 = .int .i64 k ∧ TP k w wr t mb w1.heap.size me w2.heap.size v) (fun _ t29 _ => n - (intOf t29).toNat)
  case atStart => exact ⟨0, Nat.zero_le _, rfl, HP.out⟩
  case round =>
    obtain ⟨k, hk, rfl, hp⟩ := hrel
    obtain ⟨f, fr, sz, rv1, es, hsz, hel, hp⟩ := hp
    have H := Lib.hid hp
    have hcr := HC.out.below hp.bel
    clear hp HP
    by_cases hlt : k < n
    · obtain ⟨b0, o0, ⟨a, cell⟩, rfl, hxb, hx, x0, x1⟩ := RdP.at_ hcr hlt
      have z1 : (0 : Int) ≤ (k : Int) := by omega
      have z2 : (k : Int) < (n : Int) := by omega
      simp only at x0 x1
      clear hcr hx
      obtain ⟨m, hm⟩ : ∃ m, es.length = m := ⟨_, rfl⟩
      have HM := Lib.hid hm
      have hel' : m ≤ 100 := by omega
      clear hm
      by_cases hcell : 0 ≤ cell ∧ cell ≤ 8
      · have q1 : decide (cell < 0) = false := decide_eq_false (by omega)
        have q2 : decide (8 < cell) = false := decide_eq_false (by omega)
        have hwf : wfk cell := wfk8 hcell
        have hl2 := (H.out.st.below (below_alloc (Below.refl _ _) (.cells #[.int .i64 a, .int .i64 cell] 88))).look2 Try.underlying86 (z := (0 : Int)) zero3 hwf
        have H1 := Lib.hid (H.out.below (below_alloc (Below.refl _ _) (.cells #[.int .i64 a, .int .i64 cell] 88)))
        obtain ⟨now, hnow⟩ := mil_last es
        obtain ⟨g, cap, rfl, hcap, hgc⟩ := H1.out.row (n := m) (by rw [mil_len, HM.out]) (by rw [← HM.out]; exact hnow)
        have HNOW := Lib.hid hnow
        have h2 : IntKind.i64.wrap (((m + 1 : Nat) : Int) - 1) = (m : Int) := by rw [IntWalk.i64_in _ (by omega)]; omega
        have h3 : (0 : Int) ≤ (m : Int) := by omega
        have h4 : (m : Int) ≤ (cap : Int) := by omega
        clear hnow
        go_upto_block 2 with fail
        go_cut [5, 9, 10, 12, 13, 14, 15, 16] (fun s5 s9 s10 s12 s13 s14 s15 s16 wx => TP (k + 1) w wx t mb w1.heap.size me w2.heap.size s5)
        case first =>
          have HW := Lib.hid (show w1.heap.size ≤ wr.heap.size from (by have := H.out.ts.box.lt; have := H.out.ts.lo.1; omega))
          by_cases h0 : a = 0
          · subst h0
            rcases hf : f cell with _ | ⟨e0, lv0, bs0, st0, into0⟩
            · simp only [stf, hf, Option.map_none, Option.getD_none, Option.isSome_none, elI_val]
              have HF := Lib.hid hf
              clear hf hl2
              as_aux_lemma =>
                go_wp2_with (go_at_call 51; refine (tp_add H1.out hcell HF.out hsz hel (by omega)).mono ?_; rintro e w3 ⟨rfl, w4, hr4, hp4⟩; have H4 := Lib.hid hp4; clear hp4)
                go_meet
                exact H4.out
            · simp only [stf, hf, Option.map_some, Option.getD_some, Option.isSome_some, elI_val]
              have HF := Lib.hid hf
              clear hf hl2
              as_aux_lemma =>
                go_wp2
                go_meet
                exact tp_skip H1.out (by omega) (by omega)
          have n0 : (a == 0) = false := by simpa using h0
          have m0 : decide (a = 0) = false := decide_eq_false h0
          by_cases h1 : a = 1
          · subst h1
            rcases hf : f cell with _ | ⟨e0, lv0, bs0, st0, into0⟩
            · simp only [stf, hf, Option.map_none, Option.getD_none, Option.isSome_none, elI_val]
              have HF := Lib.hid hf
              clear hf hl2
              as_aux_lemma =>
                go_wp2_with (first
                  | (go_at_call 60; refine (one_any60 _ _).mono ?_; rintro e w3 ⟨b, R, rfl, hbb, hRR, hfr, hbe⟩; have H3 := Lib.hid (And.intro hbb (And.intro hRR (And.intro hfr hbe))); clear hbb hRR hfr hbe)
                  | (go_at_call 52; refine (pt_start_none (H1.out.below H3.out.2.2.2) hwf HF.out b).mono ?_; rintro e w4 ⟨rfl, rfl⟩))
                go_meet
                exact tp_skip (H1.out.below H3.out.2.2.2) (by omega) (by omega)
            · simp only [stf, hf, Option.map_some, Option.getD_some, Option.isSome_some, elI_val]
              have HF := Lib.hid hf
              clear hf hl2
              by_cases hst : st0 = 0
              · subst hst
                as_aux_lemma =>
                  obtain ⟨i0, hi, hz0, hz1, hz2⟩ := info_parts info3
                  have HI := Lib.hid (And.intro hi (And.intro hz0 (And.intro hz1 hz2)))
                  clear hi hz0 hz1 hz2
                  go_wp2_with (first
                    | (go_at_call 60; refine (one_any60 _ _).mono ?_; rintro e w3 ⟨b, R, rfl, hbb, hRR, hfr, hbe⟩; have H3 := Lib.hid (And.intro hbb (And.intro hRR (And.intro hfr hbe))); clear hbb hRR hfr hbe)
                    | (go_at_call 52; refine (tp_start H1.out hcell HF.out rfl hsz hel (by omega) H3.out.1 H3.out.2.1 H3.out.2.2.1 H3.out.2.2.2).mono ?_; rintro e w3b ⟨rfl, w4, f4, fr4, rv4, e4, hr4, hp4⟩; have H4 := Lib.hid hp4; clear hp4)
                    | (at_builtin; refine wpList_append_rd rfl w1.heap.size (.tmp 81) (.tmp 83) 44 rfl 3 i0 _ 1 8 Try.underlying44 HI.out.1 HI.out.2.1 HI.out.2.2.1 HI.out.2.2.2 rfl (by omega) (.slice (some ⟨g, 0, none⟩) (m + 1) cap) (es.length + 1) ((mil es).map (Value.int .i64)) (by rfl) (by have hq := (H4.out.own).alloc (.cells #[.int .i64 cell] 3); rw [mil_len] at hq; exact hq) (some ⟨w4.heap.size, 0, none⟩) 1 1 [.int .i64 cell] (by rfl) (by exact Rd.of_blk (Blk.made (by simp) 3 _) rfl) (by intro u hu; simp at hu; subst hu; rfl) (by unfold maxLen; omega) (by omega) (by have := H4.out.ts.box.lt; have := H4.out.ts.lo.1; simp; omega) ?_; intro v5 w5 ho5 hg5 _; have H5 := Lib.hid (And.intro ho5 hg5); clear ho5 hg5))
                  go_meet
                  exact tp_skip (tp_push (N := k + 1) (H4.out.below (below_alloc (Below.refl _ _) _)) (by omega) (by omega) H5.out.1 H5.out.2) (by omega) (by simp; omega)
              · have g1 : (st0 == 0) = false := by simpa using hst
                have g2 : decide (st0 = 0) = false := decide_eq_false hst
                have HST := Lib.hid hst
                clear hst
                as_aux_lemma =>
                  go_wp2_with (first
                    | (go_at_call 60; refine (one_any60 _ _).mono ?_; rintro e w3 ⟨b, R, rfl, hbb, hRR, hfr, hbe⟩; have H3 := Lib.hid (And.intro hbb (And.intro hRR (And.intro hfr hbe))); clear hbb hRR hfr hbe)
                    | (go_at_call 52; refine (pt_start_no (H1.out.below H3.out.2.2.2) hwf HF.out HST.out b).mono ?_; rintro e w4 ⟨rfl, rfl⟩))
                  go_meet
                  exact tp_skip (H1.out.below H3.out.2.2.2) (by omega) (by omega)
          have n1 : (a == 1) = false := by simpa using h1
          have m1 : decide (a = 1) = false := decide_eq_false h1
          by_cases h2 : a = 2
          · subst h2
            clear hl2
            rcases List.eq_nil_or_concat es with rfl | ⟨es0, ⟨k0, e0⟩, rfl⟩
            · obtain rfl : now = -1 := by have := HNOW.out; simp [mil] at this; omega
              obtain rfl : m = 0 := by have := HM.out; simp at this; omega
              as_aux_lemma =>
                go_wp2_with (go_at_call 54; refine (tp_susp_main H1.out hsz _).mono ?_; rintro e w3 ⟨rfl, hp3⟩; have H3 := Lib.hid hp3; clear hp3)
                go_meet
                exact H3.out
            · rw [List.concat_eq_append] at H1 HNOW HM H hel
              obtain rfl : k0 = now := by have := HNOW.out; rw [mil_last_snoc] at this; injection this
              obtain ⟨m, rfl⟩ : ∃ j, m = j + 1 := ⟨es0.length, by have := HM.out; simp at this; omega⟩
              have hm0 : es0.length = m := by have := HM.out; simp at this; omega
              have HM0 := Lib.hid hm0
              have HSZ := Lib.hid hsz
              clear hm0
              have hk0 : 0 ≤ k0 := by obtain ⟨_, _, _, _, h, _⟩ := H.out.top; exact h
              have g3 : decide (k0 < 0) = false := decide_eq_false (by omega)
              have hmk : m + 1 ≤ k := by have := HM0.out; simp at hel; omega
              have h5 : (m : Int) + 1 ≤ (cap : Int) := by omega
              have h6 : (0 : Int) ≤ (m : Int) + 1 := by omega
              clear hel hk0
              as_aux_lemma =>
                go_wp2_with (go_at_call 54; refine (tp_susp (N := k) H1.out HM0.out HSZ.out hmk (by omega)).mono ?_; rintro e w3 ⟨rfl, w4, hr4, hp4⟩; have H4 := Lib.hid hp4; clear hp4)
                go_meet
                exact H4.out
          have n2 : (a == 2) = false := by simpa using h2
          have m2 : decide (a = 2) = false := decide_eq_false h2
          by_cases h3 : a = 3
          · subst h3
            rcases hf : f cell with _ | ⟨e0, lv0, bs0, st0, into0⟩
            · simp only [stf, hf, Option.map_none, Option.getD_none, Option.isSome_none, elI_val]
              have HF := Lib.hid hf
              clear hf hl2
              as_aux_lemma =>
                have HA := Lib.hid (H1.out.below (below_alloc (Below.refl _ _) (.cells #[.int .i64 2, .int .i64 cell, .string ⟨#[]⟩] 25)))
                go_wp2_with (first
                  | (go_at_call 14; refine (int_any _ _).mono ?_; rintro e w3 ⟨rfl, rfl⟩; unfold V.agg V.int; try simp only)
                  | (go_at_call 56; refine (pt_wake_none HA.out hwf HF.out (V.int cell)).mono ?_; rintro e w4 ⟨rfl, hp4⟩; have H4 := Lib.hid hp4; clear hp4))
                go_meet
                exact tp_skip H4.out (by omega) (by omega)
            · simp only [stf, hf, Option.map_some, Option.getD_some, Option.isSome_some, elI_val]
              have HF := Lib.hid hf
              clear hf hl2
              by_cases hst : st0 = 1
              · subst hst
                as_aux_lemma =>
                  obtain ⟨i0, hi, hz0, hz1, hz2⟩ := info_parts info3
                  have HI := Lib.hid (And.intro hi (And.intro hz0 (And.intro hz1 hz2)))
                  clear hi hz0 hz1 hz2
                  have HA := Lib.hid (H1.out.below (below_alloc (Below.refl _ _) (.cells #[.int .i64 2, .int .i64 cell, .string ⟨#[]⟩] 25)))
                  go_upto_region 45 with (first
                    | (go_at_call 14; refine (int_any _ _).mono ?_; rintro e w3 ⟨rfl, rfl⟩; unfold V.agg V.int; try simp only)
                    | (go_at_call 56; refine (tp_wake HA.out hcell HF.out rfl hsz hel (by omega) (V.int cell)).mono ?_; rintro e w3b ⟨rfl, w4, f4, fr4, rv4, e4, y4, b4, R4, rg4, hr4, hp4⟩; have H4 := Lib.hid hp4; clear hp4)
                    | (at_builtin; refine wpList_append_rd rfl w1.heap.size (.tmp 121) (.tmp 123) 44 rfl 3 i0 _ 1 8 Try.underlying44 HI.out.1 HI.out.2.1 HI.out.2.2.1 HI.out.2.2.2 rfl (by omega) (.slice (some ⟨g, 0, none⟩) (m + 1) cap) (es.length + 1) ((mil es).map (Value.int .i64)) (by rfl) (by have hq := (H4.out.1.own).alloc (.cells #[.int .i64 cell] 3); rw [mil_len] at hq; exact hq) (some ⟨w4.heap.size, 0, none⟩) 1 1 [.int .i64 cell] (by rfl) (by exact Rd.of_blk (Blk.made (by simp) 3 _) rfl) (by intro u hu; simp at hu; subst hu; rfl) (by unfold maxLen; omega) (by omega) (by have := H4.out.1.ts.box.lt; have := H4.out.1.ts.lo.1; simp; omega) ?_; intro v5 w5 ho5 hg5 _; have H5 := Lib.hid (And.intro ho5 hg5); clear ho5 hg5))
                  go_cut [141] (fun s wx => s = .bool false ∧ TP (k + 1) w wx t mb w1.heap.size me w2.heap.size v5)
                  case first =>
                    obtain ⟨hp4, hf4, hye, hyb, hfr4, hrl4, hr14⟩ := H4.out
                    subst hye
                    obtain ⟨hp8, hfr8⟩ := tp_wake_push (N := k + 1) (hp4.below (below_alloc (Below.refl _ _) (.cells #[.int .i64 cell] 3))) (hfr4.below (below_alloc (Below.refl _ _) (.cells #[.int .i64 cell] 3))) (by omega) (by omega) H5.out.1 H5.out.2
                    obtain ⟨r7, r3, r4, r5⟩ := PT.regs hfr8 hr14
                    simp only [hrl4, Nat.one_mul, V.int] at r7 r3 r4 r5
                    obtain ⟨lb, lR⟩ := hfr8.lt
                    have hfar : ∀ (i : Nat) {B j : Nat} {v : Value}, B < w5.heap.size → w5.cell? ⟨B, j, none⟩ = some v → ((w5.drewN i).alloc (.cells #[.int .i64 2, .int .i64 cell, .string ⟨#[]⟩] 25)).cell? ⟨B, j, none⟩ = some v := fun i B j v hB hq => (((below_alloc (Bw.of ((Kp.refl _ w5).drewN i)) _).cell (p := ⟨B, j, none⟩) hB)).trans hq
                    have t7 := fun i => hfar i lb r7
                    have t3 := fun i => hfar i lR r3
                    have t4 := fun i => hfar i lR r4
                    have t5 := fun i => hfar i lR r5
                    clear hfar
                    have hv := run_neq_V (V.int cell) (V.int cell)
                    rw [veq_self] at hv
                    unfold V.agg V.int at hv
                    simp only at hv
                    have H8 := Lib.hid (And.intro hp8 (And.intro hf4 hyb))
                    clear hp4 hf4 hyb hfr4 hrl4 hr14 hp8 hfr8
                    go_region_with (first
                      | (go_at_call 53; refine (pt_now (H8.out.1.below (Bw.of (by repeat (first | exact Kp.refl _ _ | refine Kp.drew ?_ | refine Kp.drewN ?_ _ | refine Kp.alloc ?_ _)))) (by omega)).mono ?_; rintro e w6 ⟨rfl, _, _, n6, rfl⟩)
                      | (go_at_call 33; refine (pt_top (H8.out.1.below (Bw.of (by repeat (first | exact Kp.refl _ _ | refine Kp.drew ?_ | refine Kp.drewN ?_ _ | refine Kp.alloc ?_ _)))) H8.out.2.1 H8.out.2.2).mono ?_; rintro e w7 ⟨rfl, n7, rfl⟩)
                      | (go_at_call 14; refine (int_any _ _).mono ?_; rintro e w8 ⟨rfl, rfl⟩; unfold V.agg V.int; try simp only))
                    all_goals (go_wp2_with fail; go_meet)
                    all_goals exact ⟨rfl, tp_skip (H8.out.1.below (Bw.of (by repeat (first | exact Kp.refl _ _ | refine Kp.drew ?_ | refine Kp.drewN ?_ _ | refine Kp.alloc ?_ _)))) (by omega) (by simp; omega)⟩
                  case rest =>
                    obtain ⟨rfl, hp7⟩ := hcut
                    have H7 := Lib.hid hp7
                    clear hp7
                    go_wp2
                    go_meet
                    exact H7.out
              · have g1 : (st0 == 1) = false := by simpa using hst
                have g2 : decide (st0 = 1) = false := decide_eq_false hst
                have HST := Lib.hid hst
                clear hst
                as_aux_lemma =>
                  have HA := Lib.hid (H1.out.below (below_alloc (Below.refl _ _) (.cells #[.int .i64 2, .int .i64 cell, .string ⟨#[]⟩] 25)))
                  go_wp2_with (first
                    | (go_at_call 14; refine (int_any _ _).mono ?_; rintro e w3 ⟨rfl, rfl⟩; unfold V.agg V.int; try simp only)
                    | (go_at_call 56; refine (pt_wake_no HA.out hwf HF.out HST.out (V.int cell)).mono ?_; rintro e w4 ⟨rfl, hp4⟩; have H4 := Lib.hid hp4; clear hp4))
                  go_meet
                  exact tp_skip H4.out (by omega) (by omega)
          have n3 : (a == 3) = false := by simpa using h3
          have m3 : decide (a = 3) = false := decide_eq_false h3
          by_cases h4 : a = 4
          · subst h4
            clear hl2
            rcases List.eq_nil_or_concat es with rfl | ⟨es0, ⟨k0, e0⟩, rfl⟩
            · obtain rfl : now = -1 := by have := HNOW.out; simp [mil] at this; omega
              obtain rfl : m = 0 := by have := HM.out; simp at this; omega
              as_aux_lemma =>
                go_wp2_with (go_at_call 57; refine (tp_end_main H1.out hsz).mono ?_; rintro e w3 ⟨rfl, hp3⟩; have H3 := Lib.hid hp3; clear hp3)
                go_meet
                exact H3.out
            · rw [List.concat_eq_append] at H1 HNOW HM H hel
              obtain rfl : k0 = now := by have := HNOW.out; rw [mil_last_snoc] at this; injection this
              obtain ⟨m, rfl⟩ : ∃ j, m = j + 1 := ⟨es0.length, by have := HM.out; simp at this; omega⟩
              have hm0 : es0.length = m := by have := HM.out; simp at this; omega
              have HM0 := Lib.hid hm0
              have HSZ := Lib.hid hsz
              clear hm0
              have hk0 : 0 ≤ k0 := by obtain ⟨_, _, _, _, h, _⟩ := H.out.top; exact h
              have g3 : decide (k0 < 0) = false := decide_eq_false (by omega)
              have hmk : m + 1 ≤ k := by have := HM0.out; simp at hel; omega
              have h5 : (m : Int) + 1 ≤ (cap : Int) := by omega
              have h6 : (0 : Int) ≤ (m : Int) + 1 := by omega
              clear hel hk0
              as_aux_lemma =>
                go_wp2_with (go_at_call 57; refine (tp_end (N := k) H1.out HM0.out HSZ.out hmk (by omega)).mono ?_; rintro e w3 ⟨rfl, w4, hr4, hp4⟩; have H4 := Lib.hid hp4; clear hp4)
                go_meet
                exact H4.out
          have n4 : (a == 4) = false := by simpa using h4
          have m4 : decide (a = 4) = false := decide_eq_false h4
          by_cases h5 : a = 5
          · subst h5
            rcases hf : f cell with _ | ⟨e0, lv0, bs0, st0, into0⟩
            · simp only [stf, hf, Option.map_none, Option.getD_none, Option.isSome_none, elI_val]
              have HF := Lib.hid hf
              clear hf hl2
              as_aux_lemma =>
                go_wp2_with (go_at_call 61; refine (tp_drop (d := 0) H1.out hcell (fun x hx => by rw [HF.out] at hx; cases hx) hsz hel (by rw [HF.out])).mono ?_; rintro e w3 ⟨rfl, w4, hr4, hp4⟩; have H4 := Lib.hid hp4; clear hp4)
                go_meet
                exact H4.out
            · simp only [stf, hf, Option.map_some, Option.getD_some, Option.isSome_some, elI_val]
              have HF := Lib.hid hf
              clear hf hl2
              by_cases hst : st0 = 2
              · subst hst
                as_aux_lemma =>
                  go_wp2
                  exact ⟨⟨k + 1, by omega, by go_num, _, _, _, _, _, by omega, by omega, H1.out⟩, by simp [intOf]; omega⟩
              · have g1 : (st0 == 2) = false := by simpa using hst
                have g2 : decide (st0 = 2) = false := decide_eq_false hst
                have hno : ∀ x, f cell = some x → x.st ≠ 2 := fun x hx => by rw [HF.out] at hx; injection hx with hx; subst hx; exact hst
                have HNO := Lib.hid hno
                clear hst hno
                by_cases hs1 : st0 = 1
                · subst hs1
                  as_aux_lemma =>
                    go_wp2_with (go_at_call 61; refine (tp_drop (d := 1) H1.out hcell (HNO.out) hsz hel (by rw [HF.out]; rfl)).mono ?_; rintro e w3 ⟨rfl, w4, hr4, hp4⟩; have H4 := Lib.hid hp4; clear hp4)
                    go_meet
                    exact H4.out
                · have g3 : (st0 == 1) = false := by simpa using hs1
                  have g4 : decide (st0 = 1) = false := decide_eq_false hs1
                  have HS1 := Lib.hid hs1
                  clear hs1
                  as_aux_lemma =>
                    go_wp2_with (go_at_call 61; refine (tp_drop (d := 0) H1.out hcell (HNO.out) hsz hel (by rw [HF.out]; exact if_neg HS1.out)).mono ?_; rintro e w3 ⟨rfl, w4, hr4, hp4⟩; have H4 := Lib.hid hp4; clear hp4)
                    go_meet
                    exact H4.out
          have n5 : (a == 5) = false := by simpa using h5
          have m5 : decide (a = 5) = false := decide_eq_false h5
          clear hl2
          as_aux_lemma =>
            go_wp2
            go_meet
            exact tp_skip H1.out (by omega) (by omega)
        case rest =>
          obtain ⟨f', fr', sz', rv', es', hsz', hel', hp'⟩ := hcut
          obtain ⟨m', hm'⟩ : ∃ m', es'.length = m' := ⟨_, rfl⟩
          obtain ⟨now', hnow'⟩ := mil_last es'
          obtain ⟨n', hn'⟩ : ∃ n', m' + 1 = n' := ⟨_, rfl⟩
          have hrow := hp'.row (n := m') (by rw [mil_len, hm']) (by rw [← hm']; exact hnow')
          rw [hn'] at hrow
          obtain ⟨g', cap', rfl, hcap', hgc'⟩ := hrow
          obtain ⟨e6, hce, hle, hnw⟩ := tp_now hp' (N := 100) (by omega) (by omega) hnow'
          have hg6 : g' < wc.heap.size := (World.ownsRow.lt hp'.own g' rfl).2
          have hm5 : m' ≤ 100 := by omega
          have hsz5 : sz' ≤ 100 := by omega
          have H5 := Lib.hid hp'
          have ASK := Lib.hid (show ∀ W, Below wc.heap.size wc W → W.cell? ⟨e6, 0, none⟩ = some (.int .i64 now') ∧ W.cell? ⟨g', m', none⟩ = some (.int .i64 now') ∧ (∀ ty, (Builtin.len_ #[86] ty #[.map (some w2.heap.size)]).run Try.prog W = .ok (.int .i64 sz') W) ∧ Below wc.heap.size wc W from fun W hW => ⟨(hW.cell hle).trans hce, (hW.cell hg6).trans hgc', fun ty => (hp'.below hW).st.len Try.underlying86 ty, hW⟩)
          have DEEP := Lib.hid (show ∀ W, Below wc.heap.size wc W → Calls Try.prog 62 #[.pointer (some ⟨t, 0, none⟩)] W fun z w' => z = .returned (.int .i64 (n' : Int)) ∧ w' = W from fun W hW => hn' ▸ tp_deep (hp'.below hW) hm')
          have CEL := Lib.hid (show ∀ W, Below wc.heap.size wc W → Calls Try.prog 63 #[.pointer (some ⟨t, 0, none⟩)] W fun z w' => ∃ A c, z = .returned (.slice A sz' c) ∧ Below wc.heap.size wc w' from fun W hW => (pt_cells (hp'.below hW) (by omega)).mono fun z w' ⟨A, c, e, hb⟩ => ⟨A, c, e, hW.trans (hb.mono hW.size)⟩)
          have HM' := Lib.hid hm'
          have HNW := Lib.hid hnw
          have h2' : IntKind.i64.wrap ((n' : Int) - 1) = (m' : Int) := by rw [IntWalk.i64_in _ (by omega)]; omega
          have HN' := Lib.hid hn'
          have h3' : (0 : Int) ≤ (m' : Int) := by omega
          have h4' : (m' : Int) < (n' : Int) := by omega
          have h4'' : (m' : Int) < (cap' : Int) := by omega
          have HS5 := Lib.hid (And.intro hsz' hel')
          clear hn' hp' hnw hnow' hm' hsz' hel' hl2 hce hgc' hg6 hle
          try clear x0
          try clear x1
          try clear hxb
          try clear hgc
          try clear h2
          try clear h3
          try clear h4
          as_aux_lemma =>
            go_upto_region 64 with fail
            go_cut [204] (fun s wy => s = .bool false ∧ Below wc.heap.size wc wy)
            case first =>
              go_region_held3 (fun w' => w'.cell? ⟨e6, 0, none⟩ = some (.int .i64 now') ∧ w'.cell? ⟨g', m', none⟩ = some (.int .i64 now') ∧ (∀ ty, (Builtin.len_ #[86] ty #[.map (some w2.heap.size)]).run Try.prog w' = .ok (.int .i64 sz') w') ∧ Below wc.heap.size wc w') ((refine ASK.out _ ?_; (repeat (first | assumption | exact Below.refl _ _ | refine Below.drew ?_ | refine bdN ?_ _))))
                (first
                  | (go_at_call 62; refine (DEEP.out _ (by (repeat (first | assumption | exact Below.refl _ _ | refine Below.drew ?_ | refine bdN ?_ _)))).mono ?_; rintro e w6 ⟨rfl, rfl⟩)
                  | (go_at_call 53; refine (HNW.out _ (by (repeat (first | assumption | exact Below.refl _ _ | refine Below.drew ?_ | refine bdN ?_ _)))).mono ?_; rintro e w7 ⟨rfl, n7, rfl⟩)
                  | (go_at_call 63; refine (CEL.out _ (by (repeat (first | assumption | exact Below.refl _ _ | refine Below.drew ?_ | refine bdN ?_ _)))).mono ?_; rintro e w8 ⟨A8, c8, rfl, hb8⟩))
              all_goals (go_wp2_with fail; go_meet)
              all_goals exact ⟨rfl, hb8⟩
            case rest =>
              obtain ⟨rfl, hp9⟩ := hcut
              have hp0 := H5.out.below hp9
              obtain ⟨D, hown, hsz0, hD⟩ := hp0.st
              have hml := hown.lt
              have HOWN := Lib.hid hown
              have HD := Lib.hid (And.intro trivial hD)
              have H9 := Lib.hid hp0
              have hr0 : wc.heap.size ≠ w2.heap.size := by omega
              clear hown hD hp0 hp9 hsz0
              go_wp2_with (first
                | (at_range; refine wpList_range_own _ rfl _ 86 rfl 3 3 keyed3 Try.underlying86 _ w2.heap.size sz' _ rfl HOWN.out ?_; intro w0 hrg0 hg0 hs0))
              try go_frame
              have HB0 := Lib.hid (show Below wc.heap.size wc w0 from ⟨hg0.os, hg0.tape, hg0.output, hg0.size, fun b hb => hg0.block b (by omega) (by simp)⟩)
              clear hg0
              go_loopw [17] (fun v17 wz => ∃ (left : Go.Lit → Bool) (cnt : Nat), wz.ranges Try.prog 3 elI.R w2.heap.size wc.heap.size sz' D left cnt ∧ (∀ z, left z = true → Maps.has D z = true) ∧ Below wc.heap.size wc wz ∧ wc.heap.size + 1 ≤ wz.heap.size) (fun _ wz => wz.rangeLeft w2.heap.size wc.heap.size)
              case atStart => exact ⟨_, _, hrg0, fun _ h => h, HB0.out, by omega⟩
              case round =>
                obtain ⟨left, cnt, hrg, hleft, hbel, hsz6⟩ := hrel
                have H := Lib.hid (And.intro hrg (And.intro hleft (And.intro hbel hsz6)))
                clear hrg hleft hbel hrg0
                go_wp2_with (at_next; refine wpList_next_ranges _ rfl _ rfl 3 keyed3 elI.R (Value.int .i64) (Value.int .i64) (fun key kl hkey => by obtain ⟨x, rfl, _⟩ := Maps.keyOf_int_inv Try.underlying3 hkey; exact ⟨x, rfl⟩) (fun v y hv => by obtain ⟨x, rfl, _⟩ := elI.inv v y hv; exact ⟨x, rfl⟩) w2.heap.size wc.heap.size sz' _ _ _ rfl H.out.1 ?_ ?_)
                · intro hc0 hl0
                  clear hc0 hl0
                  as_aux_lemma =>
                    obtain ⟨q', hq'⟩ : ∃ q', 6 * m' = q' := ⟨_, rfl⟩
                    have hq2 : IntKind.i64.wrap (6 * (m' : Int)) = (q' : Int) := by rw [IntWalk.i64_in _ (by omega)]; omega
                    have LIVE := Lib.hid (show Calls Try.prog 64 #[.pointer (some ⟨t, 0, none⟩)] wr fun z w' => ∃ A c, z = .returned (.slice A q' c) ∧ PF w w' t mb w1.heap.size me w2.heap.size f' fr' sz' rv' es' (.slice (some ⟨g', 0, none⟩) n' cap') from by
                      have hpf := H9.out.below H.out.2.2.1
                      refine (pt_live hpf (by have := HS5.out.2; omega) HM'.out).mono ?_
                      rintro z w' ⟨A, c, rfl, hb⟩
                      exact ⟨A, c, by rw [hq'], hpf.below hb⟩)
                    clear hq'
                    go_wp2_with (go_at_call 64; refine LIVE.out.mono ?_; rintro e w9 ⟨A9, c9, rfl, hp9⟩; have H10 := Lib.hid hp9; clear hp9)
                    exact ⟨⟨k + 1, by omega, by go_num, _, _, _, _, _, HS5.out.1, HS5.out.2, H10.out⟩, by simp [intOf]; omega⟩
                · intro x c kl a1 b1 w' cnt' hkey hlk hv hat hrg1 hlt1 hg1 hs1 hen
                  obtain ⟨hsf, hwx⟩ := entry_in HD.out.2 hkey (H.out.2.1 kl hlk) hv hat
                  obtain ⟨y, hy, hyc⟩ := stf_some hsf
                  have hbw : Below wc.heap.size wc w' := by
                    have hbel := H.out.2.2.1
                    exact ⟨hg1.os.trans hbel.os, hg1.tape.trans hbel.tape, hg1.output.trans hbel.output, Nat.le_trans hbel.size hg1.size, fun b hb => (hg1.block b (by have := hbel.size; omega) (fun e => by injection e with e; omega)).trans (hbel.block b hb)⟩
                  have hpf := H9.out.below hbw
                  have STA := Lib.hid (show Calls Try.prog 58 #[.pointer (some ⟨t, 0, none⟩), .int .i64 x] w' fun z w2' => z = .returned (.int .i64 c) ∧ w2' = w' from hyc ▸ pt_state hpf hwx hy)
                  have HPF := Lib.hid (And.intro hpf (And.intro hwx (And.intro hy (And.intro hyc hbw))))
                  have H1x := Lib.hid (And.intro hkey (And.intro hlk (And.intro hrg1 (And.intro hlt1 (And.intro hg1 hs1)))))
                  clear hkey hlk hv hat hrg1 hlt1 hg1 hs1 hsf hwx hy hyc hbw hpf
                  have hstep : ∀ w9 : World, Below w'.heap.size w' w9 → (∃ left cnt, w9.ranges Try.prog 3 elI.R w2.heap.size wc.heap.size sz' D left cnt ∧ (∀ z, left z = true → Maps.has D z = true) ∧ Below wc.heap.size wc w9 ∧ wc.heap.size + 1 ≤ w9.heap.size) ∧ w9.rangeLeft w2.heap.size wc.heap.size < wr.rangeLeft w2.heap.size wc.heap.size := by
                    intro w9 hb9
                    obtain ⟨hrg, hleft, hbel, _⟩ := H.out
                    obtain ⟨hkey, hlk, hrg1, hlt1, hg1, hs1⟩ := H1x.out
                    have h2 := hrg1.kept (show w'.grownBy w9 none from ⟨hb9.os, hb9.tape, hb9.output, hb9.size, fun k hk _ => hb9.block k hk⟩) (fun e => by cases e) (fun e => by cases e)
                    refine ⟨⟨_, _, h2, fun z hz => hleft z (by simp only [Bool.and_eq_true] at hz; exact hz.1), HPF.out.2.2.2.2.trans (hb9.mono HPF.out.2.2.2.2.size), by have := hb9.size; omega⟩, ?_⟩
                    rw [h2.left_eq, hrg.left_eq]
                    exact hlt1
                  have HST := Lib.hid hstep
                  clear hstep
                  by_cases hc1 : c = 1
                  · subst hc1
                    as_aux_lemma =>
                      go_wp2_with (first
                        | (go_at_call 58; refine STA.out.mono ?_; rintro e w6 ⟨rfl, rfl⟩)
                        | (go_at_call 55; refine (pt_val HPF.out.1 HPF.out.2.1 HPF.out.2.2.1 HPF.out.2.2.2.1).mono ?_; rintro e w9 ⟨A9, c9, rfl, hb9⟩; have HB9 := Lib.hid hb9; clear hb9))
                      exact HST.out _ HB9.out
                  · have g1 : (c == 1) = false := by simpa using hc1
                    have g2 : decide (c = 1) = false := decide_eq_false hc1
                    have HC1 := Lib.hid hc1
                    clear hc1
                    as_aux_lemma =>
                      go_wp2_with (first
                        | (go_at_call 58; refine STA.out.mono ?_; rintro e w6 ⟨rfl, rfl⟩)
                        | (go_at_call 55; refine (pt_val_no HPF.out.1 HPF.out.2.1 HPF.out.2.2.1 (fun e => HC1.out (HPF.out.2.2.2.1.symm.trans e))).mono ?_; rintro e w9 ⟨rfl, rfl⟩))
                      exact HST.out _ (Below.refl _ _)
      · by_cases hneg : cell < 0
        · have q1 : decide (cell < 0) = true := decide_eq_true hneg
          have H1 := Lib.hid (H.out.below (below_alloc (Below.refl _ _) (.cells #[.int .i64 a, .int .i64 cell] 88)))
          clear hneg hcell
          go_wp2
          exact ⟨⟨k + 1, by omega, by go_num, _, _, _, _, _, by omega, by omega, H1.out⟩, by simp [intOf]; omega⟩
        · have q1 : decide (cell < 0) = false := decide_eq_false hneg
          have q2 : decide (8 < cell) = true := decide_eq_true (by omega)
          have H1 := Lib.hid (H.out.below (below_alloc (Below.refl _ _) (.cells #[.int .i64 a, .int .i64 cell] 88)))
          clear hneg hcell
          go_wp2
          exact ⟨⟨k + 1, by omega, by go_num, _, _, _, _, _, by omega, by omega, H1.out⟩, by simp [intOf]; omega⟩
    · have z5 : decide ((k : Int) < (n : Int)) = false := decide_eq_false (by omega)
      clear hcr
      go_wp2
      go_ret
      exact ⟨rfl, H.out.bel⟩
end Go.Proofs.Ytpcamgjfikipgaa
