/- The walk of dreylaw19.OrderPlain. Condition: the list as it came in. -/
import Derived.Test.YtecoghabjcnbnaaPlainV
import Derived.Test.YtecoghabjcnbnaaCheck
import Derived.Test.YtecoghabjcnbnaaHead
import Derived.Deep.RegionHeld3
namespace Go.Proofs.Ytecoghabjcnbnaa
open Go.RowKit
set_option linter.unusedVariables false
theorem oplain_big {w : World} {A : Option Addr} {n c : Nat} (h : 40 < n) (hn : n ≤ 9223372036854775807) :
    Calls Try.prog 6 #[.slice A n c] w fun e w' => e = .returned (.bool true) ∧ Below w.heap.size w w' := by
  have q : decide (40 < (n : Int)) = true := decide_eq_true (by omega)
  clear h
  go_enter Try.func6, Try.ntmps6
  go_wp2_with (go_at_call 7; refine (sorts_any _).mono ?_; rintro e w1 ⟨rfl, hb1⟩; have HB1 := Lib.hid hb1; clear hb1)
  go_ret
  exact ⟨rfl, HB1.out⟩
theorem keepB {W W' : World} (hb : Below W.heap.size W W') {a b p0 p1 p2 p3 p4 p5 : Nat} {v0 v1 v2 v3 v4 v5 : Value} (h : W.cell? ⟨a, p0, none⟩ = some v0 ∧ W.cell? ⟨a, p1, none⟩ = some v1 ∧ W.cell? ⟨a, p2, none⟩ = some v2 ∧ W.cell? ⟨b, p3, none⟩ = some v3 ∧ W.cell? ⟨b, p4, none⟩ = some v4 ∧ W.cell? ⟨b, p5, none⟩ = some v5 ∧ a < W.heap.size ∧ b < W.heap.size) :
    W'.cell? ⟨a, p0, none⟩ = some v0 ∧ W'.cell? ⟨a, p1, none⟩ = some v1 ∧ W'.cell? ⟨a, p2, none⟩ = some v2 ∧ W'.cell? ⟨b, p3, none⟩ = some v3 ∧ W'.cell? ⟨b, p4, none⟩ = some v4 ∧ W'.cell? ⟨b, p5, none⟩ = some v5 ∧ a < W'.heap.size ∧ b < W'.heap.size := by
  obtain ⟨h0, h1, h2, h3, h4, h5, h6, h7⟩ := h
  have hz := hb.size
  exact ⟨(hb.cell h6).trans h0, (hb.cell h6).trans h1, (hb.cell h6).trans h2, (hb.cell h7).trans h3, (hb.cell h7).trans h4, (hb.cell h7).trans h5, by omega, by omega⟩
set_option maxRecDepth 100000 in
set_option maxHeartbeats 16000000 in
theorem oplain_walk {w : World} {A : Option Addr} {n c : Nat} {vs : List V} (hv : RdV w A n vs) (hn : n ≤ 40) :
    Calls Try.prog 6 #[.slice A n c] w fun e w' => e = .returned (.bool true) ∧ Below w.heap.size w w' := by
  have q : decide (40 < (n : Int)) = false := decide_eq_false (by omega)
  have HV := Lib.hid hv
  have HL := Lib.hid hv.len
  clear hv
  go_enter Try.func6, Try.ntmps6
  go_wp2_with (go_at_call 7; refine (sorts_any _).mono ?_; rintro e w1 ⟨rfl, hb1⟩; have HB1 := Lib.hid hb1; clear hb1)
  go_loopw [17] (fun t wr => ∃ (k : Nat), k ≤ n ∧ t = .int .i64 k ∧ (∀ x ∈ vs.take k, x.s.size ≤ 200) ∧ Below w1.heap.size w1 wr) (fun t _ => n - (intOf t).toNat)
  case atStart => exact ⟨0, Nat.zero_le _, rfl, fun x hx => by simp at hx, Below.refl _ _⟩
  case round =>
    obtain ⟨k, hk, rfl, hsz, hbr⟩ := hrel
    have HBR := Lib.hid hbr
    have HSZ := Lib.hid hsz
    have hv2 := HV.out.below (HB1.out.trans (hbr.mono HB1.out.size))
    by_cases hlt : k < n
    · obtain ⟨b0, o0, x, rfl, hxb, hx, x0, x1, x2⟩ := RdV.at_ hv2 hlt
      have hck := fun w => check_any x w
      have HX := Lib.hid hx
      obtain ⟨kx, nx, sx⟩ := x
      unfold V.agg at hck
      have HCK := Lib.hid hck
      have z1 : (0 : Int) ≤ (k : Int) := by omega
      have z2 : (k : Int) < (n : Int) := by omega
      simp only at x0 x1 x2
      clear hx hck hsz hbr hv2
      by_cases hsx : sx.size ≤ 200
      · have q3 : decide (200 < (sx.size : Int)) = false := decide_eq_false (by omega)
        have HSX := Lib.hid hsx
        clear hsx
        go_wp2_with (go_at_call 19; refine (HCK.out _).mono ?_; rintro e w2 ⟨⟨c2, rfl⟩, hb2⟩; obtain ⟨hc2, hf2⟩ := bcell hb2; have HB2 := Lib.hid hb2; clear hb2)
        · refine ⟨⟨k + 1, by omega, by go_num, fun x hx => ?_, HBR.out.trans (((below_alloc (Below.refl _ _) _).trans (HB2.out.mono (by simp))).mono HBR.out.size)⟩, by simp [intOf]; omega⟩
          rw [List.take_add_one, HX.out] at hx
          simp only [Option.toList, List.mem_append, List.mem_singleton] at hx
          rcases hx with hx | rfl
          · exact HSZ.out x hx
          · exact HSX.out
        · go_ret
          exact ⟨rfl, HB1.out.trans ((HBR.out.trans (((below_alloc (Below.refl _ _) _).trans (HB2.out.mono (by simp))).mono HBR.out.size)).mono HB1.out.size)⟩
      · have q3 : decide (200 < (sx.size : Int)) = true := decide_eq_true (by omega)
        go_wp2_with (go_at_call 19; refine (HCK.out _).mono ?_; rintro e w2 ⟨⟨c2, rfl⟩, hb2⟩; obtain ⟨hc2, hf2⟩ := bcell hb2; have HB2 := Lib.hid hb2; clear hb2)
        all_goals
          go_ret
          exact ⟨rfl, HB1.out.trans ((HBR.out.trans (((below_alloc (Below.refl _ _) _).trans (HB2.out.mono (by simp))).mono HBR.out.size)).mono HB1.out.size)⟩
    · have z5 : decide ((k : Int) < (n : Int)) = false := decide_eq_false (by omega)
      obtain rfl : k = n := by omega
      have hall : ∀ x ∈ vs, x.s.size ≤ maxLen := fun x hx => Nat.le_trans (HSZ.out x (by rw [List.take_of_length_le (by rw [HL.out]; omega)]; exact hx)) (by unfold maxLen; omega)
      have HALL := Lib.hid hall
      have HV2 := Lib.hid hv2
      clear hall hv2 hsz hbr
      have hbw : Below w.heap.size w wr := HB1.out.trans (HBR.out.mono HB1.out.size)
      have HBW := Lib.hid hbw
      clear hbw
      go_wp2_with (go_at_call 18; refine (plainV_any HV2.out (by omega) HALL.out).mono ?_; rintro e w2 ⟨hb2, (rfl | ⟨A2, c2, us, rfl, ho2, hm2, hr2⟩)⟩)
      · go_ret
        exact ⟨rfl, HBW.out.trans (hb2.mono HBW.out.size)⟩
      · have H2 := Lib.hid (And.intro ho2 (And.intro hm2 (And.intro hr2 hb2)))
        clear ho2 hm2 hr2 hb2
        go_loopw [7] (fun t wr2 => ∃ (i : Nat), 1 ≤ i ∧ (i ≤ k ∨ i = 1) ∧ t = .int .i64 i ∧ Below w2.heap.size w2 wr2) (fun t _ => k - (intOf t).toNat)
        case atStart => exact ⟨1, Nat.le_refl _, .inr rfl, rfl, Below.refl _ _⟩
        case round =>
          obtain ⟨i, hi1, hi2, rfl, hbr⟩ := hrel
          have HBR2 := Lib.hid hbr
          by_cases hik : i < k
          · have hr3 := H2.out.1.below hbr
            obtain ⟨b9, o9, x, rfl, hxb, hx, x0, x1, x2⟩ := RdV.at_ hr3 (show i - 1 < k by omega)
            obtain ⟨b8, o8, y, hA8, hyb, hy, y0, y1, y2⟩ := RdV.at_ hr3 hik
            injection hA8 with hA8
            injection hA8 with hA81 hA82
            subst hA81 hA82
            obtain ⟨P, hP⟩ : ∃ P, i = P + 1 := ⟨i - 1, by omega⟩
            have hP2 : i - 1 = P := by omega
            rw [hP2] at hx x0 x1 x2
            have hup := H2.out.2.2.1 P x y hx (by rw [← hP]; exact hy)
            have hcmp := fun w => compare_any x y (HALL.out x ((H2.out.2.1 x).1 (List.mem_of_getElem? hx))) (HALL.out y ((H2.out.2.1 y).1 (List.mem_of_getElem? hy))) w
            rw [hup.1] at hcmp
            obtain ⟨c1, hc1⟩ : ∃ c1, (cmpV x y).1 = c1 := ⟨_, rfl⟩
            have hup2 := hup.2
            rw [hc1] at hcmp hup2
            have q1 : decide (0 < c1) = false := decide_eq_false (by omega)
            have z0 : decide ((i : Int) < (k : Int)) = true := decide_eq_true (by omega)
            have z1 : (0 : Int) ≤ (i : Int) := by omega
            have z2 : (i : Int) < (k : Int) := by omega
            have z3 : IntKind.i64.wrap ((i : Int) - 1) = (P : Int) := by rw [IntWalk.i64_in _ (by omega)]; omega
            have z4 : (0 : Int) ≤ (P : Int) := by omega
            have z5 : (P : Int) < (k : Int) := by omega
            obtain ⟨k1, n1, s1⟩ := x
            obtain ⟨k2, n2, s2⟩ := y
            unfold V.agg at hcmp
            have HC := Lib.hid hcmp
            simp only at x0 x1 x2 y0 y1 y2
            clear hr3 hx hy hup hcmp hup2 hc1 hP hP2 hbr
            go_wp2
            go_region_held3 (fun wx => wx.cell? ⟨b9, o9 + P * 3, none⟩ = some (.int .i64 k1) ∧ wx.cell? ⟨b9, o9 + P * 3 + 1, none⟩ = some (.int .i64 n1) ∧ wx.cell? ⟨b9, o9 + P * 3 + 2, none⟩ = some (.string s1) ∧ wx.cell? ⟨b9, o9 + i * 3, none⟩ = some (.int .i64 k2) ∧ wx.cell? ⟨b9, o9 + i * 3 + 1, none⟩ = some (.int .i64 n2) ∧ wx.cell? ⟨b9, o9 + i * 3 + 2, none⟩ = some (.string s2) ∧ b9 < wx.heap.size ∧ b9 < wx.heap.size) ((first | exact ⟨x0, x1, x2, y0, y1, y2, hxb, hxb⟩ | exact keepB hb3 (by assumption) | assumption))
              (first
                | (go_at_call 17; refine (HC.out _).mono ?_; rintro e w3 ⟨rfl, hb3⟩))
            go_wp2
            exact ⟨⟨i + 1, by omega, .inl (by omega), by go_num, HBR2.out.trans (((Below.refl _ wr).drew.trans hb3).mono HBR2.out.size)⟩, by simp [intOf]; omega⟩
          · have z0 : decide ((i : Int) < (k : Int)) = false := decide_eq_false (by omega)
            clear hbr
            go_wp2
            go_ret
            exact ⟨rfl, HBW.out.trans ((H2.out.2.2.2.trans (HBR2.out.mono H2.out.2.2.2.size)).mono HBW.out.size)⟩
end Go.Proofs.Ytecoghabjcnbnaa
