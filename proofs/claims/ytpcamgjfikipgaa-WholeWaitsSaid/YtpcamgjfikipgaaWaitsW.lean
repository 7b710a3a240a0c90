/- The walk of dreytop.WholeWaits. Condition: the numbers are of 64 bits. -/
import Derived.Test.YtpcamgjfikipgaaWaitOps
import Derived.Test.YtpcamgjfikipgaaEqs
import Derived.Deep.DeepCutAuto
namespace Go.Proofs.Ytpcamgjfikipgaa
open Go.RowKit
set_option linter.unusedVariables false
theorem Bw.of {w W : World} (k : Kp (fun _ => False) w W) : Below w.heap.size w W := k.below (fun _ _ h => h)
set_option maxRecDepth 100000 in
set_option maxHeartbeats 4000000 in
theorem waits_early (cell other : Int) (v : V) (hc : cell < 0 ∨ other < 0 ∨ cell = other) (w : World) : Calls Try.prog 10 #[.int .i64 cell, .int .i64 other, v.agg] w fun e w' => e = .returned (.bool true) ∧ Below w.heap.size w w' := by
  have hk0 : wfk 0 := by unfold wfk; decide
  have HK := Lib.hid hk0
  clear hk0
  have fin : ∀ {w1 w2 : World}, Below (w.alloc (.cells #[.int .i64 v.k, .int .i64 v.n, .string v.s] 25)).heap.size (w.alloc (.cells #[.int .i64 v.k, .int .i64 v.n, .string v.s] 25)) w1 → Below w1.heap.size w1 w2 → Below w.heap.size w w2 := fun b1 b2 => ((below_alloc (Below.refl _ _) _).trans (b1.mono (by simp))).trans (b2.mono (by have := b1.size; simp at this; omega))
  have FIN := Lib.hid (fun (w1 w2 : World) b1 b2 => fin (w1 := w1) (w2 := w2) b1 b2)
  clear fin
  by_cases h1 : cell < 0
  · have q1 : decide (cell < 0) = true := decide_eq_true h1
    clear hc
    unfold V.agg
    go_enter Try.func10, Try.ntmps10
    go_wp2_with (first
      | (go_at_call 41; refine (new_gens _).mono ?_; rintro e w1 ⟨g, mbg, rfl, hgs, hb1⟩; have H1 := Lib.hid (And.intro hgs hb1); have hq1 := fun W => run_eql_ptr_nil (P := Try.prog) W (tp := 84) ⟨g, 0, none⟩ Try.underlying84; clear hgs hb1)
      | (go_at_call 50; refine (threads_new _).mono ?_; rintro e w2 ⟨t, mbt, me, rv, rfl, hts, hb2⟩; have H2 := Lib.hid (And.intro hts hb2); have hq2 := fun W => run_eql_ptr_nil (P := Try.prog) W (tp := 97) ⟨t, 0, none⟩ Try.underlying97; clear hts hb2)
      | (go_at_call 47; refine (g0_state ⟨_, H1.out.1.below H2.out.2, rfl⟩ HK.out).mono ?_; rintro e w' ⟨rfl, rfl⟩))
    go_ret
    exact ⟨rfl, FIN.out _ _ H1.out.2 H2.out.2⟩
  · have q1 : decide (cell < 0) = false := decide_eq_false h1
    by_cases h2 : other < 0
    · have q2 : decide (other < 0) = true := decide_eq_true h2
      clear hc
      unfold V.agg
      go_enter Try.func10, Try.ntmps10
      go_wp2_with (first
        | (go_at_call 41; refine (new_gens _).mono ?_; rintro e w1 ⟨g, mbg, rfl, hgs, hb1⟩; have H1 := Lib.hid (And.intro hgs hb1); have hq1 := fun W => run_eql_ptr_nil (P := Try.prog) W (tp := 84) ⟨g, 0, none⟩ Try.underlying84; clear hgs hb1)
        | (go_at_call 50; refine (threads_new _).mono ?_; rintro e w2 ⟨t, mbt, me, rv, rfl, hts, hb2⟩; have H2 := Lib.hid (And.intro hts hb2); have hq2 := fun W => run_eql_ptr_nil (P := Try.prog) W (tp := 97) ⟨t, 0, none⟩ Try.underlying97; clear hts hb2)
        | (go_at_call 47; refine (g0_state ⟨_, H1.out.1.below H2.out.2, rfl⟩ HK.out).mono ?_; rintro e w' ⟨rfl, rfl⟩))
      go_ret
      exact ⟨rfl, FIN.out _ _ H1.out.2 H2.out.2⟩
    · have q2 : decide (other < 0) = false := decide_eq_false h2
      obtain rfl : cell = other := by omega
      clear hc
      unfold V.agg
      go_enter Try.func10, Try.ntmps10
      go_wp2_with (first
        | (go_at_call 41; refine (new_gens _).mono ?_; rintro e w1 ⟨g, mbg, rfl, hgs, hb1⟩; have H1 := Lib.hid (And.intro hgs hb1); have hq1 := fun W => run_eql_ptr_nil (P := Try.prog) W (tp := 84) ⟨g, 0, none⟩ Try.underlying84; clear hgs hb1)
        | (go_at_call 50; refine (threads_new _).mono ?_; rintro e w2 ⟨t, mbt, me, rv, rfl, hts, hb2⟩; have H2 := Lib.hid (And.intro hts hb2); have hq2 := fun W => run_eql_ptr_nil (P := Try.prog) W (tp := 97) ⟨t, 0, none⟩ Try.underlying97; clear hts hb2)
        | (go_at_call 47; refine (g0_state ⟨_, H1.out.1.below H2.out.2, rfl⟩ HK.out).mono ?_; rintro e w' ⟨rfl, rfl⟩))
      go_ret
      exact ⟨rfl, FIN.out _ _ H1.out.2 H2.out.2⟩
theorem w_setup {wv w1 w2 w3 w4 : World} {g mbg t mbt me b1 R1 b2 R2 : Nat} {rv : Value} {o1 o2 o3 o4 : Obj} {cell : Int} (hgs : GS w1 g mbg wv.heap.size (fun _ => none) 0) (hb1 : Below wv.heap.size wv w1) (hts : TS w2 t mbt w1.heap.size (mainE me) (fun _ => none) 0 rv [me]) (hb2 : Below w1.heap.size w1 w2) (hc : wfk cell)
    (hq : ((w3.alloc o3).alloc o4).heap.size ≤ b2 ∧ ((w3.alloc o3).alloc o4).heap.size ≤ R2 ∧ FrG w4 b2 R2 (List.replicate 2 V.null) 0 (-1) ∧ Below ((w3.alloc o3).alloc o4).heap.size ((w3.alloc o3).alloc o4) w4 ∧
      ((w2.alloc o1).alloc o2).heap.size ≤ b1 ∧ ((w2.alloc o1).alloc o2).heap.size ≤ R1 ∧ FrG w3 b1 R1 (List.replicate 2 V.null) 0 (-1) ∧ Below ((w2.alloc o1).alloc o2).heap.size ((w2.alloc o1).alloc o2) w3) :
    R1 ≠ R2 ∧ Calls Try.prog 42 #[.pointer (some ⟨g, 0, none⟩), .int .i64 cell, .pointer (some ⟨b1, 0, none⟩)] w4 fun e w' => e = .returned (.tuple #[]) ∧ ∃ e0, W1 wv w' g mbg t mbt w1.heap.size me cell b1 R1 b2 R2 e0 (fun _ => none) 0 rv := by
  obtain ⟨a1, a2, a3, a4, a5, a6, a7, a8⟩ := hq
  have s1 := hb1.size
  have s2 := hb2.size
  have s3 := a8.size
  have l3 := a7.lt
  simp at a1 a2 a5 a6 s3
  have b23 : Below w2.heap.size w2 w3 := (below_alloc (below_alloc (Below.refl _ _) o1) o2).trans (a8.mono (by simp; omega))
  have b34 : Below w3.heap.size w3 w4 := (below_alloc (below_alloc (Below.refl _ _) o3) o4).trans (a4.mono (by simp; omega))
  have b24 := b23.trans (b34.mono b23.size)
  have b14 := hb2.trans (b24.mono hb2.size)
  have hm1 := hgs.im.lt
  have hm2 := hts.lo.2
  refine ⟨by omega, w_add (hgs.below b14) rfl hc (hts.below b24) (a7.below b34) a3 (by omega) (by omega) (by omega) ⟨s1, by omega, by omega, by omega⟩ (hb1.trans (b14.mono hb1.size))⟩
set_option maxRecDepth 100000 in
set_option maxHeartbeats 16000000 in
theorem waits_walk (cell other : Int) (v : V) (h0 : 0 ≤ cell) (h1 : 0 ≤ other) (hne : cell ≠ other) (wc : wfk cell) (wo : wfk other) (w : World) : Calls Try.prog 10 #[.int .i64 cell, .int .i64 other, v.agg] w fun e w' => e = .returned (.bool true) ∧ Below w.heap.size w w' := by
  have hk0 : wfk 0 := by unfold wfk; decide
  have HK := Lib.hid (And.intro hk0 (And.intro wc wo))
  have H0 := Lib.hid (And.intro h0 (show other ≠ -1 by omega))
  obtain ⟨j40, hj40, hj1⟩ := Option.map_eq_some_iff.1 info40
  have q1 : decide (cell < 0) = false := decide_eq_false (by omega)
  have q2 : decide (other < 0) = false := decide_eq_false (by omega)
  have q3 : (cell == other) = false := by simpa using hne
  have q3b : decide (cell = other) = false := decide_eq_false hne
  clear hk0 wc wo h0 h1 hne hj1
  obtain ⟨kv, nv, sv⟩ := v
  obtain ⟨wv, hwv⟩ : ∃ wv, wv = w.alloc (.cells #[.int .i64 kv, .int .i64 nv, .string sv] 25) := ⟨_, rfl⟩
  have HV := Lib.hid hwv
  clear hwv
  unfold V.agg
  go_enter Try.func10, Try.ntmps10
  go_wp2_with (first
    | (go_at_call 41; refine (new_gens _).mono ?_; rintro e w1 ⟨g, mbg, rfl, hgs, hb1⟩; rw [← HV.out] at hgs hb1; have H1 := Lib.hid (And.intro hgs hb1); have hq1 := fun W => run_eql_ptr_nil (P := Try.prog) W (tp := 84) ⟨g, 0, none⟩ Try.underlying84; clear hgs hb1)
    | (go_at_call 50; refine (threads_new _).mono ?_; rintro e w2 ⟨t, mbt, me, rv, rfl, hts, hb2⟩; have H2 := Lib.hid (And.intro hts hb2); have hq2 := fun W => run_eql_ptr_nil (P := Try.prog) W (tp := 97) ⟨t, 0, none⟩ Try.underlying97; clear hts hb2)
    | (go_at_call 47; refine (g0_state ⟨_, H1.out.1.below H2.out.2, rfl⟩ HK.out.1).mono ?_; rintro e w' ⟨rfl, rfl⟩)
    | (go_at_call 18; refine (null_any _).mono ?_; rintro e wn ⟨rfl, rfl⟩; unfold V.agg V.null)
    | (go_at_call 16; first
        | (refine (new_fr _ _ _ _ _ _ _ _ 2 _ V.null V.null _ (by omega)).mono ?_; rintro e w4 ⟨b2, R2, rfl, hbb, hRR, hfr, hbe⟩; have H4 := Lib.hid (And.intro hbb (And.intro hRR (And.intro hfr (And.intro hbe H3.out)))); clear hbb hRR hfr hbe)
        | (refine (new_fr _ _ _ _ _ _ _ _ 2 _ V.null V.null _ (by omega)).mono ?_; rintro e w3 ⟨b1, R1, rfl, hbb, hRR, hfr, hbe⟩; have H3 := Lib.hid (And.intro hbb (And.intro hRR (And.intro hfr hbe))); clear hbb hRR hfr hbe))
    | (go_at_call 42; have hset := w_setup (cell := cell) H1.out.1 H1.out.2 H2.out.1 H2.out.2 HK.out.2.1 H4.out; have HRN := Lib.hid hset.1; refine hset.2.mono ?_; clear hset; rintro e w5 ⟨rfl, e0, h5⟩; have H5 := Lib.hid h5; clear h5)
    | (go_at_call 51; refine (w_tadd H5.out HK.out.2.2).mono ?_; rintro e w6 ⟨rfl, e1, h6⟩; have H6 := Lib.hid h6; clear h6)
    | (go_at_call 52; refine (w_start H6.out HK.out.2.2).mono ?_; rintro e w7 ⟨rfl, lv7, rv7, h7⟩; have H7 := Lib.hid h7; clear h7)
    | (go_at_call 43; first
        | (refine (ww_resume1 H11.out HK.out.2.1).mono ?_; rintro e w12 ⟨rfl, h12⟩; have H12 := Lib.hid h12; clear h12)
        | (refine (ww_resume0 H7.out HK.out.2.1).mono ?_; rintro e w8 ⟨rfl, h8⟩; have H8 := Lib.hid h8; clear h8))
    | (go_at_call 53; refine (ww_now (r0 := [me]) H8.out (by simp)).mono ?_; rintro e w9 ⟨rfl, h9⟩; have H9 := Lib.hid h9; clear h9)
    | (go_at_call 23; refine (ww_push H9.out HRN.out (by simp)).mono ?_; rintro e w10 ⟨rfl, lv10, h10⟩; have H10 := Lib.hid h10; clear h10)
    | (go_at_call 54; refine (ww_susp (r0 := [me]) H10.out HRN.out (by simp) H0.out.2 _).mono ?_; rintro e w11 ⟨rfl, rv11, h11⟩; have H11 := Lib.hid h11; clear h11)
    | (go_at_call 48; refine (ww_gval_no H12.out HK.out.2.1).mono ?_; rintro e w' ⟨rfl, rfl⟩)
    | (go_at_call 55; refine (ww_tval H12.out HK.out.2.2 H0.out.1 rfl rfl (by simp)).mono ?_; rintro e w14 ⟨A14, c14, rfl, h14⟩; have H14 := Lib.hid h14; clear h14))
  have hbox : ∀ W, Below wv.heap.size wv W → W.cell? ⟨w.heap.size, 0, none⟩ = some (.int .i64 kv) ∧ W.cell? ⟨w.heap.size, 1, none⟩ = some (.int .i64 nv) ∧ W.cell? ⟨w.heap.size, 2, none⟩ = some (.string sv) := fun W hb => by
    have hl : w.heap.size < wv.heap.size := by rw [HV.out]; simp
    have hbk : Blk wv w.heap.size 25 [.int .i64 kv, .int .i64 nv, .string sv] := by rw [HV.out]; exact Blk.new w 25 _
    exact ⟨(hb.cell (p := ⟨w.heap.size, 0, none⟩) hl).trans (hbk.cell rfl), (hb.cell (p := ⟨w.heap.size, 1, none⟩) hl).trans (hbk.cell rfl), (hb.cell (p := ⟨w.heap.size, 2, none⟩) hl).trans (hbk.cell rfl)⟩
  have HBOX := Lib.hid hbox
  clear hbox
  obtain ⟨y0, y1, y2⟩ := HBOX.out _ H14.out.bel
  have hv := run_neq_V ⟨kv, nv, sv⟩ ⟨kv, nv, sv⟩
  rw [veq_self] at hv
  unfold V.agg at hv
  have hsame := fun W => Lib.run_neq_ptr_same (P := Try.prog) W (tp := 35) ⟨b1, 0, none⟩ Try.underlying35 hj40
  go_cut [123] (fun s wx => s = .bool false ∧ ∃ lv rv, WW wv wx g mbg t mbt w1.heap.size me cell other b1 R1 b2 R2 (nulls.set 1 ⟨kv, nv, sv⟩) e0 none 1 ⟨e1, lv, [b2], 2, 1⟩ rv ([me] ++ [e1]))
  case first =>
    go_region_with (first
      | (go_at_call 56; refine (ww_wake (bs0 := [b2]) (i := 1) (H14.out.below (Bw.of (by repeat (first | exact Kp.refl _ _ | refine Kp.drew ?_ | refine Kp.drewN ?_ _ | refine Kp.alloc ?_ _)))) HK.out.2.2 HRN.out rfl rfl rfl (by simp) (by simp) (by simp) (by simp) ⟨kv, nv, sv⟩).mono ?_; rintro e w15 ⟨rfl, rv15, h15⟩; obtain ⟨r7, r3, r4, r5⟩ := h15.reg (i := 1) (v := ⟨kv, nv, sv⟩) (by simp); simp only [List.length_set, List.length_replicate, Nat.one_mul] at r7 r3 r4 r5; obtain ⟨u0, u1, u2⟩ := HBOX.out _ h15.bel; have H15 := Lib.hid h15; clear h15)
      | (go_at_call 53; refine (ww_now (r0 := [me]) (H15.out.below (Bw.of (by repeat (first | exact Kp.refl _ _ | refine Kp.drew ?_ | refine Kp.drewN ?_ _ | refine Kp.alloc ?_ _)))) (by simp)).mono ?_; rintro e w16 ⟨rfl, h16⟩; have H16 := Lib.hid h16; clear h16)
      | (go_at_call 20; refine (ww_pop (bs0 := [b2]) (H16.out.below (Bw.of (by repeat (first | exact Kp.refl _ _ | refine Kp.drew ?_ | refine Kp.drewN ?_ _ | refine Kp.alloc ?_ _)))) HRN.out rfl (by simp)).mono ?_; rintro e w17 ⟨rfl, lv17, h17⟩; have H17 := Lib.hid h17; clear h17))
    all_goals (go_wp2_with fail; go_meet)
    all_goals exact ⟨rfl, lv17, rv15, H17.out⟩
  case rest =>
    obtain ⟨rfl, lv, rv', h20⟩ := hcut
    have H20 := Lib.hid h20
    clear h20
    go_wp2_with (first
      | (go_at_call 44; refine (ww_gsusp H20.out HK.out.2.1).mono ?_; rintro e w21 ⟨rfl, h21⟩; have H21 := Lib.hid h21; clear h21)
      | (go_at_call 47; refine (ww_gstate H21.out HK.out.2.1).mono ?_; rintro e w' ⟨rfl, rfl⟩)
      | (go_at_call 48; refine (ww_gval H21.out HK.out.2.1 H0.out.1 (by simp)).mono ?_; rintro e w22 ⟨A22, c22, rfl, h22⟩; have H22 := Lib.hid h22; clear h22)
      | (go_at_call 57; refine (ww_end (r0 := [me]) H22.out HRN.out (by simp) H0.out.2).mono ?_; rintro e w23 ⟨rfl, rv23, h23⟩; have H23 := Lib.hid h23; clear h23)
      | (go_at_call 58; refine (ww_tstate H23.out HK.out.2.2).mono ?_; rintro e w' ⟨rfl, rfl⟩))
    go_ret
    have hb := H23.out.bel
    have hv := HV.out
    refine ⟨rfl, ?_⟩
    rw [hv] at hb
    exact (below_alloc (Below.refl _ _) _).trans (hb.mono (by simp))
end Go.Proofs.Ytpcamgjfikipgaa
