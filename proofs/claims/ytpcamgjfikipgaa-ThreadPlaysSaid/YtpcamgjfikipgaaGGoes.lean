/- dreylaw25.goes is true. No condition. -/
import Derived.Test.YtpcamgjfikipgaaOneGen
namespace Go.Proofs.Ytpcamgjfikipgaa
open Go.RowKit
set_option linter.unusedVariables false
theorem new_fr (c0 c1 c3 c4 c5 c6 c7 c8 : Value) (regs : Nat) (ix : Int) (cl se : V) (w : World) (hr : regs ≤ 1000) :
    Calls Try.prog 16 #[.agg #[c0, c1, .int .i64 regs, c3, c4, c5, c6, c7, c8], .int .i64 ix, cl.agg, se.agg, .slice none 0 0] w fun e w' => ∃ b R, e = .returned (.pointer (some ⟨b, 0, none⟩)) ∧ w.heap.size ≤ b ∧ w.heap.size ≤ R ∧ FrG w' b R (List.replicate regs V.null) 0 (-1) ∧ Below w.heap.size w w' := by
  refine (new_any c0 c1 c3 c4 c5 c6 c7 c8 regs ix cl se none 0 0 [] w hr (by omega) (Rd.nil _ _ _) _ rfl).mono ?_
  rintro e w' ⟨rfl, hsz, hb, hR, hF⟩
  rw [List.nil_append, Nat.sub_zero] at hR hF
  exact ⟨_, _, rfl, by omega, by omega, ⟨hR, _, _, _, _, _, _, hF⟩, hb⟩
theorem new_gens (w : World) : Calls Try.prog 41 #[] w fun e w' => ∃ g mb, e = .returned (.pointer (some ⟨g, 0, none⟩)) ∧ GS w' g mb w.heap.size (fun _ => none) 0 ∧ Below w.heap.size w w' := by
  refine (gens_new w).mono ?_
  rintro e w' ⟨rfl, h1, h2⟩
  exact ⟨_, _, rfl, h1, h2⟩
theorem kpb {w w1 w2 : World} (h : Below w.heap.size w w1) (k : Kp (fun x => w.heap.size ≤ x) w1 w2) : Below w.heap.size w w2 :=
  ((Kp.of_below (S := fun x => w.heap.size ≤ x) h).trans k (fun _ _ h => h)).below (fun b hb h => by omega)
theorem kpe {w w1 w2 : World} {e : Nat} (h : Below w.heap.size w w1) (he : w.heap.size ≤ e) (k : Kp (fun x => x = e) w1 w2) : Below w.heap.size w w2 :=
  kpb h (k.mono (fun x _ h => by subst h; exact he))
theorem FrG.how_ {w : World} {b R : Nat} {regs : List V} {how gen : Int} (h : FrG w b R regs how gen) : w.cell? ⟨b, 10, none⟩ = some (.int .i64 how) ∧ w.cell? ⟨b, 15, none⟩ = some (.int .i64 gen) := by
  obtain ⟨hR, fn, cl, se, pc, dst, ex, hb⟩ := h
  exact ⟨hb.cell rfl, hb.cell rfl⟩
theorem FrG.below {w w' : World} {b R : Nat} {regs : List V} {how gen : Int} (h : FrG w b R regs how gen) (k : Below w.heap.size w w') : FrG w' b R regs how gen := h.kp (S := fun _ => False) (Kp.of_below k) id id
set_option maxRecDepth 100000 in
set_option maxHeartbeats 4000000 in
theorem ggoes_any (w : World) : Calls Try.prog 39 #[] w fun e w' => e = .returned (.bool true) ∧ Below w.heap.size w w' := by
  have hk5 : wfk 5 := by unfold wfk; decide
  have HK := Lib.hid hk5
  obtain ⟨j40, hj40, hj1⟩ := Option.map_eq_some_iff.1 info40
  clear hj1
  clear hk5
  go_enter Try.func39, Try.ntmps39
  go_wp2_with (first
    | (go_at_call 41; refine (new_gens _).mono ?_; rintro e w1 ⟨g, mb, rfl, hgs, hb1⟩; have H1 := Lib.hid (And.intro hgs hb1); have hq1 := fun W => run_eql_ptr_nil (P := Try.prog) W (tp := 84) ⟨g, 0, none⟩ Try.underlying84; clear hgs hb1)
    | (go_at_call 18; refine (null_any _).mono ?_; rintro e wn ⟨rfl, rfl⟩; unfold V.agg V.null)
    | (go_at_call 16; refine (new_fr _ _ _ _ _ _ _ _ 1 _ V.null V.null _ (by omega)).mono ?_; rintro e w2 ⟨b, R, rfl, hbb, hRR, hfr, hbe⟩; have hbw : Below w.heap.size w w2 := H1.out.2.trans ((below_alloc (below_alloc (Below.refl _ _) _) _).mono H1.out.2.size |>.trans (hbe.mono (by have := H1.out.2.size; simp; omega))); have hg2 : G0 w2 g mb w.heap.size 5 0 := ⟨_, ((H1.out.1.below (below_alloc (below_alloc (Below.refl _ _) _) _)).below hbe), rfl⟩; have hbl : w.heap.size ≤ b := (by have := H1.out.2.size; simp at hbb; omega); have H2 := Lib.hid (And.intro hg2 (And.intro hfr (And.intro hbw hbl))); have hq2 := fun W => run_eql_ptr_nil (P := Try.prog) W (tp := 35) ⟨b, 0, none⟩ Try.underlying35; have hq3 := fun W => run_eql_ptr_same (P := Try.prog) W (tp := 35) ⟨b, 0, none⟩ Try.underlying35 hj40; clear hbb hRR hfr hbe hbw hg2 hbl)
    | (go_at_call 47; first
        | (refine (g1_state H3.out.1 HK.out).mono ?_; rintro e w' ⟨rfl, rfl⟩)
        | (refine (g0_state H2.out.1 HK.out).mono ?_; rintro e w' ⟨rfl, rfl⟩))
    | (go_at_call 42; refine (g0_add H2.out.1 HK.out (by omega) H2.out.2.1 H2.out.2.2.2).mono ?_; rintro e w3 ⟨rfl, ⟨e0, hg3⟩, hf3, hk3⟩; have hb3 := kpb H2.out.2.2.1 hk3; obtain ⟨y10, y15⟩ := hf3.how_; have H3 := Lib.hid (And.intro hg3 (And.intro hf3 hb3)); clear hg3 hf3 hk3 hb3)
    | (go_at_call 48; refine (g1_values H3.out.1 HK.out H3.out.2.1 (by omega) rfl (by simp)).mono ?_; rintro e w4 ⟨A4, c4, rfl, hb4⟩; have H4 := Lib.hid (And.intro (H3.out.1.below hb4) (And.intro (H3.out.2.1.below hb4) (H3.out.2.2.trans (hb4.mono H3.out.2.2.size)))); clear hb4)
    | (go_at_call 49; first
        | (refine (g0_cells H12.out.1 (by omega)).mono ?_; rintro e w13 ⟨A13, c13, rfl, hb13⟩; have H13 := Lib.hid (H12.out.2.trans (hb13.mono H12.out.2.size)); clear hb13)
        | (refine (g1_cells H4.out.1 (by omega)).mono ?_; rintro e w5 ⟨A5, c5, rfl, hb5⟩; have H5 := Lib.hid (And.intro (H4.out.1.below hb5) (And.intro (H4.out.2.1.below hb5) (H4.out.2.2.trans (hb5.mono H4.out.2.2.size)))); clear hb5))
    | (go_at_call 43; first
        | (refine (g1_resume2 H10.out.1 HK.out).mono ?_; rintro e w11 ⟨rfl, hg11, hk11⟩; have H11 := Lib.hid (And.intro hg11 (kpe H10.out.2 H10.out.1.eb hk11)); clear hg11 hk11)
        | (refine (g1_resume0 H8.out.1 HK.out H8.out.2.1).mono ?_; rintro e w9 ⟨rfl, hg9, hf9, hk9⟩; have H9 := Lib.hid (And.intro hg9 (kpb H8.out.2.2 hk9)); clear hg9 hf9 hk9)
        | (refine (g1_resume1 H6.out.1 HK.out).mono ?_; rintro e w7 ⟨rfl, hg7, hk7⟩; have H7 := Lib.hid (And.intro hg7 (And.intro (H6.out.1.fr H6.out.2.1 hk7) (kpe H6.out.2.2 H6.out.1.eb hk7))); clear hg7 hk7)
        | (refine (g1_resume0 H5.out.1 HK.out H5.out.2.1).mono ?_; rintro e w6 ⟨rfl, hg6, hf6, hk6⟩; have H6 := Lib.hid (And.intro hg6 (And.intro hf6 (kpb H5.out.2.2 hk6))); clear hg6 hf6 hk6))
    | (go_at_call 44; refine (g1_suspend H7.out.1 HK.out H7.out.2.1).mono ?_; rintro e w8 ⟨rfl, hg8, hk8⟩; have H8 := Lib.hid (And.intro hg8 (And.intro (H7.out.1.fr H7.out.2.1 hk8) (kpe H7.out.2.2 H7.out.1.eb hk8))); clear hg8 hk8)
    | (go_at_call 45; refine (g1_end H9.out.1 HK.out).mono ?_; rintro e w10 ⟨rfl, hg10, hk10⟩; have H10 := Lib.hid (And.intro hg10 (kpb H9.out.2 hk10)); clear hg10 hk10)
    | (go_at_call 40; refine (gname1 _).mono ?_; rintro e w' ⟨rfl, rfl⟩)
    | (go_at_call 46; refine (g1_drop H11.out.1 HK.out).mono ?_; rintro e w12 ⟨rfl, hg12, hk12⟩; have H12 := Lib.hid (And.intro hg12 (kpb H11.out.2 hk12)); clear hg12 hk12))
  go_ret
  exact ⟨rfl, H13.out⟩
end Go.Proofs.Ytpcamgjfikipgaa
