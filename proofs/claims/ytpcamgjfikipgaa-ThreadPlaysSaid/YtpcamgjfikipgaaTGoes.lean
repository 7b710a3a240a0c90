/- dreylaw26.goes is true. No condition. -/
import Derived.Test.YtpcamgjfikipgaaTGoesOps
namespace Go.Proofs.Ytpcamgjfikipgaa
open Go.RowKit
set_option linter.unusedVariables false
set_option linter.unusedSimpArgs false
set_option maxRecDepth 100000 in
set_option maxHeartbeats 8000000 in
theorem tgoes_any (w : World) : Calls Try.prog 59 #[] w fun e w' => e = .returned (.bool true) ∧ Below w.heap.size w w' := by
  have hk4 : wfk 4 := by unfold wfk; decide
  have HK := Lib.hid hk4
  clear hk4
  go_enter Try.func59, Try.ntmps59
  go_wp2_with (first
    | (go_at_call 50; refine (threads_new _).mono ?_; rintro e w2 ⟨t, mb, me, rv, rfl, hts, hb2⟩; have hta : TA w w2 t mb w.heap.size me 4 none 0 rv [me] := ⟨⟨_, hts, rfl⟩, Nat.le_refl _, hb2⟩; have H2 := Lib.hid hta; have hq1 := fun W => run_eql_ptr_nil (P := Try.prog) W (tp := 97) ⟨t, 0, none⟩ Try.underlying97; clear hts hb2 hta)
    | (go_at_call 62; first
        | (refine (ta_deep H20.out).mono ?_; rintro e w' ⟨rfl, rfl⟩)
        | (refine (ta_deep H2.out).mono ?_; rintro e w' ⟨rfl, rfl⟩))
    | (go_at_call 53; first
        | (refine (tf_now (r0 := [me]) H17.out (by simp)).mono ?_; rintro e w18 ⟨rfl, h18, hc18⟩; have H18 := Lib.hid h18; clear h18)
        | (refine (tf_now (r0 := [me]) H11.out (by simp)).mono ?_; rintro e w13 ⟨rfl, h13, hc13⟩; have H13 := Lib.hid h13; clear h13)
        | (refine (ta_now_main H2.out).mono ?_; rintro e w3 ⟨rfl, h3, hc3⟩; have H3 := Lib.hid h3; clear h3))
    | (go_at_call 54; first
        | (refine (tf_susp (r0 := [me]) H13.out (by decide) (by simp) _).mono ?_; rintro e w14 ⟨rfl, rv14, h14⟩; have H14 := Lib.hid h14; clear h14)
        | (refine (ta_susp_main H3.out _).mono ?_; rintro e w4 ⟨rfl, h4⟩; have H4 := Lib.hid h4; clear h4))
    | (go_at_call 57; first
        | (refine (tf_end (r0 := [me]) H19.out (by decide) (by simp)).mono ?_; rintro e w20 ⟨rfl, rv20, h20⟩; have H20 := Lib.hid h20; clear h20)
        | (refine (ta_end_main H4.out).mono ?_; rintro e w5 ⟨rfl, h5⟩; have H5 := Lib.hid h5; clear h5))
    | (go_at_call 60; first
        | (refine (one_any60 _ _).mono ?_; rintro e w11 ⟨b', R', rfl, _, _, _, hb11⟩; have H11 := Lib.hid (H10.out.below hb11); clear hb11)
        | (refine (one_any60 _ _).mono ?_; rintro e w9 ⟨b, R, rfl, hb, hR, hfr, hb9⟩; have hbw := H8.out.bel.size; have H9 := Lib.hid (And.intro (H8.out.below hb9) (And.intro hfr (And.intro (Nat.le_trans hbw hb) (Nat.le_trans hbw hR)))); clear hb9 hfr hb hR hbw)
        | (refine (one_any60 _ _).mono ?_; rintro e w6 ⟨b6, R6, rfl, _, _, _, hb6⟩; have H6 := Lib.hid (H5.out.below hb6); have hq6 := fun W => run_eql_ptr_nil (P := Try.prog) W (tp := 35) ⟨b6, 0, none⟩ Try.underlying35; clear hb6))
    | (go_at_call 51; refine (ta_add H6.out HK.out (by omega)).mono ?_; rintro e w7 ⟨rfl, e1, h7⟩; have H7 := Lib.hid h7; clear h7)
    | (go_at_call 58; first
        | (refine (ta_state H20.out HK.out).mono ?_; rintro e w' ⟨rfl, rfl⟩)
        | (refine (ta_state H14.out.ta HK.out).mono ?_; rintro e w' ⟨rfl, rfl⟩)
        | (refine (ta_state H7.out HK.out).mono ?_; rintro e w' ⟨rfl, rfl⟩; simp only [idleE]))
    | (go_at_call 18; refine (null_any _).mono ?_; rintro e wn ⟨rfl, rfl⟩; unfold V.agg V.null)
    | (go_at_call 14; refine (int_any _ _).mono ?_; rintro e wn ⟨rfl, rfl⟩; unfold V.agg V.int)
    | (go_at_call 56; first
        | (refine (tf_wake (bs0 := []) (i := 1) (H16.out.below (below_alloc (Below.refl _ _) _)) HK.out rfl rfl rfl (by simp) (by simp) (by simp) (by simp) (V.int 7)).mono ?_; rintro e w17 ⟨rfl, rv17, h17⟩; have h17' : TF w w17 t mb w.heap.size me 4 ⟨e1, lv10, [b], 2, 1⟩ 1 rv17 ([me] ++ [e1]) b R ((List.replicate 2 V.null).set 1 (V.int 7)) := h17; have H17 := Lib.hid h17'; clear h17 h17')
        | (refine (ta_wake_no (H7.out.below (below_alloc (Below.refl _ _) _)) HK.out (by simp [idleE]) V.null).mono ?_; rintro e w8 ⟨rfl, h8⟩; have H8 := Lib.hid h8; clear h8))
    | (go_at_call 52; first
        | (refine (tf_start_no H11.out HK.out (by simp [idleE]) b').mono ?_; rintro e w' ⟨rfl, rfl⟩)
        | (refine (tf_start H9.out.1 HK.out rfl H9.out.2.1 H9.out.2.2.1 H9.out.2.2.2 (by simp [idleE]) (by simp)).mono ?_; rintro e w10 ⟨rfl, lv10, rv10, h10⟩; have h10' : TF w w10 t mb w.heap.size me 4 ⟨e1, lv10, [b], 2, 0⟩ 1 rv10 ([me] ++ [e1]) b R (List.replicate 2 V.null) := h10; have H10 := Lib.hid h10'; clear h10 h10'))
    | (go_at_call 55; refine (tf_val H14.out HK.out rfl rfl (by simp)).mono ?_; rintro e w16 ⟨A16, c16, rfl, h16⟩; have H16 := Lib.hid h16; clear h16)
    | (go_at_call 33; refine (tf_top (bs0 := []) H18.out rfl (by simp [runE])).mono ?_; rintro e w18b ⟨rfl, h18b⟩; obtain ⟨s7, _, s4, _⟩ := h18b.reg (i := 1) (v := V.int 7) (by simp); simp only [List.length_set, List.length_replicate, Nat.one_mul, V.int] at s7 s4; have H18b := Lib.hid h18b; clear h18b)
    | (go_at_call 64; refine (tf_live H18b.out (by decide) rfl (by simp)).mono ?_; rintro e w19 ⟨A19, c19, rfl, h19⟩; have H19 := Lib.hid h19; clear h19)
    | (go_at_call 63; refine (ta_cells H20.out (by omega)).mono ?_; rintro e w21 ⟨A21, c21, rfl, h21⟩; have H21 := Lib.hid h21; clear h21)
    | (go_at_call 61; refine (ta_drop H21.out HK.out rfl).mono ?_; rintro e w22 ⟨rfl, h22⟩; have H22 := Lib.hid h22; clear h22)
    | (go_at_call 65; refine (tname2 _).mono ?_; rintro e w' ⟨rfl, rfl⟩))
  go_ret
  exact ⟨rfl, H22.out⟩
end Go.Proofs.Ytpcamgjfikipgaa
