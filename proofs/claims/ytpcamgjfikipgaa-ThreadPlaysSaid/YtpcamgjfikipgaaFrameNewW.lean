/- dreylaw20.FrameNew where its guard lets go on: the call returns true and leaves what was there as it was. Conditions: at most 200 registers, no more arguments than registers. -/
import Derived.Test.YtpcamgjfikipgaaEqs
namespace Go.Proofs.Ytpcamgjfikipgaa
open Go.RowKit
set_option linter.unusedVariables false
attribute [local go_sem ↓] Go.wp_at_zero Go.wp_at_succ
/-- What frame.New leaves, the blocks' numbers being letters. -/
def Made (w : World) (ix : Int) (cl se : V) (regs : List V) (s : Value) (wx : World) : Prop :=
  ∃ r g, s = ptr g ∧ w.heap.size ≤ r ∧ w.heap.size ≤ g ∧ r ≠ g ∧ Below w.heap.size w wx ∧ Blk wx r 25 (vcs regs) ∧ Blk wx g 40 (fcs ix cl se (.slice (some ⟨r, 0, none⟩) regs.length regs.length) 0 0 0 V.null (.pointer none) (-1))
/-- "another". -/
def another : V := V.str ⟨#[97, 110, 111, 116, 104, 101, 114]⟩
theorem vcs_set (L : List V) (m : Nat) (x : V) : (((vcs L).set (m * 3) (.int .i64 x.k)).set (m * 3 + 1) (.int .i64 x.n)).set (m * 3 + 2) (.string x.s) = vcs (L.set m x) ∨ L.length ≤ m := by
  induction L generalizing m with
  | nil => right; simp
  | cons v L ih =>
    cases m with
    | zero => left; simp [vcs, V.cs]
    | succ m =>
      rcases ih m with h | h
      · left
        rw [vcs_cons, List.set_cons_succ, vcs_cons, ← h]
        have e : ∀ (l : List Value) (j : Nat) (u : Value), (v.cs ++ l).set ((m + 1) * 3 + j) u = v.cs ++ l.set (m * 3 + j) u := fun l j u => by
          rw [List.set_append_right _ _ (by simp [V.cs]; omega)]
          congr 2
          simp [V.cs]; omega
        have e0 := e (vcs L) 0 (.int .i64 x.k)
        simp only [Nat.add_zero] at e0
        rw [e0, e, e]
      · right; simpa using h
theorem set_cells {w : World} {r m : Nat} {L : List V} (h : Blk w r 25 (vcs L)) (x : V) (hm : m < L.length) :
    Blk (((w.setCell ⟨r, m * 3, none⟩ (.int .i64 x.k)).setCell ⟨r, m * 3 + 1, none⟩ (.int .i64 x.n)).setCell ⟨r, m * 3 + 2, none⟩ (.string x.s)) r 25 (vcs (L.set m x)) := by
  rcases vcs_set L m x with e | e
  · rw [← e]; exact ((h.set_ _ _).set_ _ _).set_ _ _
  · omega
theorem another_step {w : World} {r m : Nat} {L : List V} (h : Blk w r 25 (vcs (List.replicate m another ++ L.drop m))) (hm : m < L.length) :
    Blk (((w.setCell ⟨r, m * 3, none⟩ (.int .i64 3)).setCell ⟨r, m * 3 + 1, none⟩ (.int .i64 0)).setCell ⟨r, m * 3 + 2, none⟩ (.string ⟨#[97, 110, 111, 116, 104, 101, 114]⟩)) r 25 (vcs (List.replicate (m + 1) another ++ L.drop (m + 1))) := by
  have h1 := set_cells (m := m) h another (by simp; omega)
  have e : (List.replicate m another ++ L.drop m).set m another = List.replicate (m + 1) another ++ L.drop (m + 1) := by
    rw [List.set_append_right _ _ (by simp), List.length_replicate, Nat.sub_self, List.drop_eq_getElem_cons hm, List.set_cons_zero, List.replicate_succ', List.append_assoc]
    rfl
  rw [e] at h1
  exact h1
theorem RdV.kp0 {S : Nat → Prop} {w w' : World} {A : Option Addr} {n : Nat} {vs : List V} (h : RdV w A n vs) (k : Kp S w w') (hn : 0 < n → ∀ ad, A = some ad → ¬ S ad.block) : RdV w' A n vs := by
  rcases Nat.eq_zero_or_pos n with h0 | h0
  · subst h0
    have e : vcs vs = [] := h.len_zero
    unfold RdV
    rw [e]
    exact Rd.nil _ _ _
  · exact h.kp k (hn h0)
theorem kp_below {w1 w' : World} {r : Nat} {B : Nat} (k : Kp (fun b => b = r) w1 w') (hs : B ≤ w1.heap.size) (hr : B ≤ r) : Below B w1 w' := ⟨k.os, k.tape, k.output, k.size, fun b hb => k.block b (by omega) (by omega)⟩
theorem new_elem (vs : List V) (n regs m : Nat) (hl : vs.length = n) (hm : m < regs) : ∃ v, (vs ++ List.replicate (regs - n) V.null)[m]? = some v ∧ (n ≤ m → v = V.null) := by
  by_cases h : m < n
  · exact ⟨vs[m]'(by omega), by rw [List.getElem?_append_left (by omega)]; exact List.getElem?_eq_getElem _, fun h2 => by omega⟩
  · refine ⟨V.null, ?_, fun _ => rfl⟩
    rw [List.getElem?_append_right (by omega), List.getElem?_replicate, if_pos (by omega)]
theorem drop_cells {w : World} {r m : Nat} {L : List V} {v : V} (h : Blk w r 25 (vcs (List.replicate m another ++ L.drop m))) (hv : L[m]? = some v) :
    w.cell? ⟨r, m * 3, none⟩ = some (.int .i64 v.k) ∧ w.cell? ⟨r, m * 3 + 1, none⟩ = some (.int .i64 v.n) ∧ w.cell? ⟨r, m * 3 + 2, none⟩ = some (.string v.s) := by
  have h0 : (List.replicate m another ++ L.drop m)[m]? = some v := by
    rw [List.getElem?_append_right (by simp), List.length_replicate, List.getElem?_drop]
    simpa using hv
  obtain ⟨a, b, c⟩ := vcs_at h0
  exact ⟨h.cell a, h.cell b, h.cell c⟩
set_option maxRecDepth 100000 in
set_option maxHeartbeats 4000000 in
theorem frameNew_walk (regs n c : Nat) (hr : regs ≤ 200) (hn : n ≤ regs) (A : Option Addr) (vs : List V) (self : V) (w : World) (hv : RdV w A n vs) :
    Calls Try.prog 4 #[.int .i64 regs, .slice A n c, self.agg] w fun e w' => e = .returned (.bool true) ∧ Below w.heap.size w w' := by
  have t1 : decide ((regs : Int) < 0) = false := by simp
  have t2 : decide ((200 : Int) < (regs : Int)) = false := by simp; omega
  have t3 : decide (regs < n) = false := by simp; omega
  have HV := Lib.hid hv
  clear hv
  obtain ⟨k2, n2, s2⟩ := self
  unfold V.agg
  go_enter Try.func4, Try.ntmps4
  go_wp2_with (go_at_call 13; refine (goes20 _).mono ?_; rintro e w1 ⟨rfl, hb1⟩; have HB1 := Lib.hid hb1; have hbx : Blk w1 w.heap.size 25 [.int .i64 k2, .int .i64 n2, .string s2] := (Blk.new w 25 [.int .i64 k2, .int .i64 n2, .string s2]).below hb1 (by simp); have x0 : w1.cell? ⟨w.heap.size, 0, none⟩ = some (.int .i64 k2) := hbx.cell rfl; have x1 : w1.cell? ⟨w.heap.size, 1, none⟩ = some (.int .i64 n2) := hbx.cell rfl; have x2 : w1.cell? ⟨w.heap.size, 2, none⟩ = some (.string s2) := hbx.cell rfl; have hlt := hbx.lt; clear hb1)
  go_upto_region 5 with fail
  go_cut [7] (fun s7 wx => Made w1 3 (V.ref 1) ⟨k2, n2, s2⟩ (vs ++ List.replicate (regs - n) V.null) s7 wx)
  case first =>
    go_region_held3 (fun w' => w'.cell? ⟨w.heap.size, 0, none⟩ = some (.int .i64 k2) ∧ w'.cell? ⟨w.heap.size, 1, none⟩ = some (.int .i64 n2) ∧ w'.cell? ⟨w.heap.size, 2, none⟩ = some (.string s2)) ((first | (refine ⟨?_, ?_, ?_⟩ <;> (rw [hb.cell (by simp; omega)]; go_simp)) | (refine ⟨?_, ?_, ?_⟩ <;> go_simp)))
     (first
      | (go_at_call 17; refine (ref_any _ _).mono ?_; rintro e w' ⟨rfl, rfl⟩; unfold V.agg V.ref)
      | (go_at_call 16; refine (new_any _ _ _ _ _ _ _ _ regs _ (V.ref 1) ⟨k2, n2, s2⟩ A n _ vs _ (by omega) hn (by exact ((HV.out.alloc _).below HB1.out).alloc _) (w1.heap.size + 1) (by simp)).mono ?_; rintro e w' ⟨rfl, hsz, hb, hrg, hfr⟩))
    all_goals (go_wp2_with fail; go_meet)
    case rel =>
      have hk : Below w1.heap.size w1 w' := below_chain hb (by repeat (first | exact Below.refl _ _ | refine Below.drew ?_ | refine below_alloc ?_ _))
      have hL : (vs ++ List.replicate (regs - n) V.null).length = regs := by have := RdV.len HV.out; simp; omega
      exact ⟨_, _, rfl, by omega, by omega, by omega, hk, hrg, hfr⟩
  case rest =>
    obtain ⟨r, g, rfl, hr1, hg1, hrg, hb, hbr, hbg⟩ := hcut
    have hL : (vs ++ List.replicate (regs - n) V.null).length = regs := by have := RdV.len HV.out; simp; omega
    rw [hL] at hbg
    have hx := hbx.below hb hlt
    have hl1 := hx.lt
    have hl2 := hbg.lt
    have hl3 := hbr.lt
    have y0 : wc.cell? ⟨w.heap.size, 0, none⟩ = some (.int .i64 k2) := hx.cell rfl
    have y1 : wc.cell? ⟨w.heap.size, 1, none⟩ = some (.int .i64 n2) := hx.cell rfl
    have y2 : wc.cell? ⟨w.heap.size, 2, none⟩ = some (.string s2) := hx.cell rfl
    have f0 : wc.cell? ⟨g, 0, none⟩ = some (.int .i64 3) := hbg.cell rfl
    have f1 : wc.cell? ⟨g, 1, none⟩ = some (.int .i64 4) := hbg.cell rfl
    have f2 : wc.cell? ⟨g, 2, none⟩ = some (.int .i64 1) := hbg.cell rfl
    have f3 : wc.cell? ⟨g, 3, none⟩ = some (.string ⟨#[]⟩) := hbg.cell rfl
    have f4 : wc.cell? ⟨g, 4, none⟩ = some (.int .i64 k2) := hbg.cell rfl
    have f5 : wc.cell? ⟨g, 5, none⟩ = some (.int .i64 n2) := hbg.cell rfl
    have f6 : wc.cell? ⟨g, 6, none⟩ = some (.string s2) := hbg.cell rfl
    have f7 : wc.cell? ⟨g, 7, none⟩ = some (.slice (some ⟨r, 0, none⟩) regs regs) := hbg.cell rfl
    have f8 : wc.cell? ⟨g, 8, none⟩ = some (.int .i64 0) := hbg.cell rfl
    have f9 : wc.cell? ⟨g, 9, none⟩ = some (.int .i64 0) := hbg.cell rfl
    have f10 : wc.cell? ⟨g, 10, none⟩ = some (.int .i64 0) := hbg.cell rfl
    have f11 : wc.cell? ⟨g, 11, none⟩ = some (.int .i64 0) := hbg.cell rfl
    have f12 : wc.cell? ⟨g, 12, none⟩ = some (.int .i64 0) := hbg.cell rfl
    have f13 : wc.cell? ⟨g, 13, none⟩ = some (.string ⟨#[]⟩) := hbg.cell rfl
    have f14 : wc.cell? ⟨g, 14, none⟩ = some (.pointer none) := hbg.cell rfl
    have f15 : wc.cell? ⟨g, 15, none⟩ = some (.int .i64 (-1)) := hbg.cell rfl
    have HB2 : Hid (Below w1.heap.size w1 wc) := hb
    have HR := Lib.hid (And.intro hbr (And.intro hbg (And.intro hr1 (And.intro hg1 hrg))))
    have HX : Hid (Blk wc w.heap.size 25 [.int .i64 k2, .int .i64 n2, .string s2]) := hx
    have HLN := Lib.hid hL
    clear hb hbr hbg hr1 hg1 hrg hx x0 x1 x2 hbx hlt hL
    unfold ptr
    go_upto_region 6 with fail
    go_cut [94] (fun s94 wx => s94 = .bool false ∧ Below wc.heap.size wc wx)
    case first =>
      go_region_held3 (fun w' => w'.cell? ⟨w.heap.size, 0, none⟩ = some (.int .i64 k2) ∧ w'.cell? ⟨w.heap.size, 1, none⟩ = some (.int .i64 n2) ∧ w'.cell? ⟨w.heap.size, 2, none⟩ = some (.string s2) ∧ w'.cell? ⟨g, 0, none⟩ = some (.int .i64 3) ∧ w'.cell? ⟨g, 1, none⟩ = some (.int .i64 4) ∧ w'.cell? ⟨g, 2, none⟩ = some (.int .i64 1) ∧ w'.cell? ⟨g, 3, none⟩ = some (.string ⟨#[]⟩) ∧ w'.cell? ⟨g, 4, none⟩ = some (.int .i64 k2) ∧ w'.cell? ⟨g, 5, none⟩ = some (.int .i64 n2) ∧ w'.cell? ⟨g, 6, none⟩ = some (.string s2) ∧ w'.cell? ⟨g, 7, none⟩ = some (.slice (some ⟨r, 0, none⟩) regs regs) ∧ w'.cell? ⟨g, 8, none⟩ = some (.int .i64 0) ∧ w'.cell? ⟨g, 9, none⟩ = some (.int .i64 0) ∧ w'.cell? ⟨g, 10, none⟩ = some (.int .i64 0) ∧ w'.cell? ⟨g, 11, none⟩ = some (.int .i64 0) ∧ w'.cell? ⟨g, 12, none⟩ = some (.int .i64 0) ∧ w'.cell? ⟨g, 13, none⟩ = some (.string ⟨#[]⟩) ∧ w'.cell? ⟨g, 14, none⟩ = some (.pointer none) ∧ w'.cell? ⟨g, 15, none⟩ = some (.int .i64 (-1))) ((refine ⟨?_, ?_, ?_, ?_, ?_, ?_, ?_, ?_, ?_, ?_, ?_, ?_, ?_, ?_, ?_, ?_, ?_, ?_, ?_⟩ <;> go_simp)) (first
       | (go_at_call 17; refine (ref_any _ _).mono ?_; rintro e w' ⟨rfl, rfl⟩; unfold V.agg V.ref))
      all_goals (go_wp2_with fail; go_meet)
      case rel => exact ⟨rfl, (by repeat (first | exact Below.refl _ _ | refine Below.drew ?_ | refine below_alloc ?_ _))⟩
    case rest =>
      obtain ⟨rfl, hb6⟩ := hcut
      obtain ⟨hbr, hbg, hr1, hg1, hrg⟩ := HR.out
      have z7 : wc.cell? ⟨g, 7, none⟩ = some (.slice (some ⟨r, 0, none⟩) regs regs) := (hbg.below hb6 hl2).cell rfl
      have HBr : Hid (Blk wc r 25 (vcs (vs ++ List.replicate (regs - n) V.null))) := hbr.below hb6 hl3
      have HBg : Hid (Blk wc g 40 (fcs 3 (V.ref 1) ⟨k2, n2, s2⟩ (.slice (some ⟨r, 0, none⟩) regs regs) 0 0 0 V.null (.pointer none) (-1))) := hbg.below hb6 hl2
      have HBx : Hid (Blk wc w.heap.size 25 [.int .i64 k2, .int .i64 n2, .string s2]) := HX.out.below hb6 hl1
      have HB7 : Hid (Below w1.heap.size w1 wc) := HB2.out.trans (hb6.mono HB2.out.size)
      have HV2 : Hid (RdV wc A n vs) := (((HV.out.alloc _).below HB1.out).below HB2.out).below hb6
      have HN : Hid (w.heap.size < w1.heap.size ∧ w1.heap.size ≤ r ∧ w1.heap.size ≤ g ∧ r ≠ g ∧ (∀ ad, A = some ad → 0 < n → ad.block < w.heap.size)) := ⟨by have := HB1.out.size; simp at this; omega, hr1, hg1, hrg, fun ad h0 h1 => by
        obtain ⟨b, o, v, e, hb0, _⟩ := RdV.at_ HV.out h1
        rw [h0] at e; injection e with e; rw [e]; exact hb0⟩
      clear y0 y1 y2 f0 f1 f2 f3 f4 f5 f6 f7 f8 f9 f10 f11 f12 f13 f14 f15 hb6 hbr hbg hr1 hg1 hrg HR HX HB2 hl1 hl2 hl3
      go_wp2
      obtain ⟨hn1, hn2, hn3, hn4, hn5⟩ := HN.out
      go_loopg [100] regs (fun gk i wr => ∃ m : Nat, m ≤ regs ∧ gk = regs - m ∧ i = .int .i64 m ∧ Kp (fun b => b = r) wc wr ∧ Blk wr r 25 (vcs (List.replicate m another ++ (vs ++ List.replicate (regs - n) V.null).drop m)))
      case atStart => exact ⟨0, Nat.zero_le _, rfl, rfl, Kp.refl _ _, by simpa using HBr.out⟩
      case round =>
        obtain ⟨m, hm, hgk, rfl, hkp, hblk⟩ := hrel
        have HG := Lib.hid hgk
        have HKP := Lib.hid hkp
        have HBL := Lib.hid hblk
        have zz : wr.cell? ⟨g, 7, none⟩ = some (.slice (some ⟨r, 0, none⟩) regs regs) := (HBg.out.kp hkp (fun e => hn4 e.symm)).cell rfl
        have hgl := (HBg.out.kp hkp (fun e => hn4 e.symm)).lt
        have hrl := hblk.lt
        have hgl1 : g < wr.heap.size + 1 := by omega
        have hgl2 : g < wr.heap.size + 1 + 1 := by omega
        have hgl3 : g < wr.heap.size + 1 + 1 + 1 := by omega
        have hrl1 : r < wr.heap.size + 1 := by omega
        have hrl2 : r < wr.heap.size + 1 + 1 := by omega
        have hrl3 : r < wr.heap.size + 1 + 1 + 1 := by omega
        have fr0 := hblk.frozen (m * 3)
        have fr1 := hblk.frozen (m * 3 + 1)
        have fr2 := hblk.frozen (m * 3 + 2)
        by_cases hlt : m < regs
        · obtain ⟨v, hv, hwant⟩ : ∃ v, (vs ++ List.replicate (regs - n) V.null)[m]? = some v ∧ (n ≤ m → v = V.null) := new_elem vs n regs m (RdV.len HV2.out) hlt
          obtain ⟨c0, c1, c2⟩ := drop_cells hblk hv
          obtain ⟨vk, vn, vs0⟩ := v
          simp only at c0 c1 c2
          clear hgk hkp hblk
          by_cases hmn : m < n
          · have q1 : decide (m < n) = true := by simpa using hmn
            obtain ⟨b, o, v2, rfl, hbl, hv2, e0, e1, e2⟩ := RdV.at_ (HV2.out.kp HKP.out (fun ad h0 e => by have := hn5 ad h0 (by omega); omega)) hmn
            have hvv : v2 = ⟨vk, vn, vs0⟩ := by
              rw [List.getElem?_append_left (by rw [RdV.len HV2.out]; exact hmn), hv2] at hv
              injection hv
            subst hvv
            simp only at e0 e1 e2
            have HWt := Lib.hid hwant
            clear hv hv2 hwant hn5
            have hbl1 : b < wr.heap.size + 1 := by omega
            have hbl2 : b < wr.heap.size + 1 + 1 := by omega
            have hbl3 : b < wr.heap.size + 1 + 1 + 1 := by omega
            go_wp2_with (go_at_call 18; refine (null_any _).mono ?_; rintro e w' ⟨rfl, rfl⟩; unfold V.agg V.null)
            go_region_held3 (fun w' => w'.cell? ⟨g, 7, none⟩ = some (.slice (some ⟨r, 0, none⟩) regs regs)) (go_simp) (first
             | (go_at_call 19; refine (str_any _ _).mono ?_; rintro e w' ⟨rfl, rfl⟩; unfold V.agg V.str))
            go_wp2
            go_roundg (regs - (m + 1))
            case rel =>
              exact ⟨m + 1, by omega, rfl, by go_num, (((((((HKP.out.setCell (.inr rfl) _).setCell (.inr rfl) _).setCell (.inr rfl) _).alloc _).alloc _).alloc _).alloc _).drew, (((((another_step HBL.out (by rw [HLN.out]; omega)).alloc _).alloc _).alloc _).alloc _).drew⟩
            case measure => have := HG.out; omega
          · have q1 : decide (m < n) = false := by simpa using hmn
            have hnull := hwant (by omega)
            injection hnull with h1 h2 h3
            subst h1; subst h2; subst h3
            clear hv hwant hn5
            go_wp2_with (go_at_call 18; refine (null_any _).mono ?_; rintro e w' ⟨rfl, rfl⟩; unfold V.agg V.null)
            go_region_held3 (fun w' => w'.cell? ⟨g, 7, none⟩ = some (.slice (some ⟨r, 0, none⟩) regs regs)) (go_simp) (first
             | (go_at_call 19; refine (str_any _ _).mono ?_; rintro e w' ⟨rfl, rfl⟩; unfold V.agg V.str))
            go_wp2
            go_roundg (regs - (m + 1))
            case rel =>
              exact ⟨m + 1, by omega, rfl, by go_num, (((((((HKP.out.setCell (.inr rfl) _).setCell (.inr rfl) _).setCell (.inr rfl) _).alloc _).alloc _).alloc _).alloc _).drew, (((((another_step HBL.out (by rw [HLN.out]; omega)).alloc _).alloc _).alloc _).alloc _).drew⟩
            case measure => have := HG.out; omega
        · obtain rfl : m = regs := by omega
          have HX2 : Hid (Blk wr w.heap.size 25 [.int .i64 k2, .int .i64 n2, .string s2]) := HBx.out.kp hkp (by omega)
          have HV3 : Hid (RdV wr A n vs) := RdV.kp0 HV2.out hkp (fun h1 ad h0 e => by have := hn5 ad h0 h1; omega)
          have HK2 : Hid (Kp (fun b => b = r) wc wr) := hkp
          have HW : Hid (Below w.heap.size w wr) := ((below_chain HB1.out (below_alloc (Below.refl _ _) _)).trans ((HB7.out.trans (kp_below HK2.out HB7.out.size hn2)).mono (by omega)))
          have hxl := HX2.out.lt
          have y0 : wr.cell? ⟨w.heap.size, 0, none⟩ = some (.int .i64 k2) := HX2.out.cell rfl
          have y1 : wr.cell? ⟨w.heap.size, 1, none⟩ = some (.int .i64 n2) := HX2.out.cell rfl
          have y2 : wr.cell? ⟨w.heap.size, 2, none⟩ = some (.string s2) := HX2.out.cell rfl
          clear hgk hkp hblk zz hgl hgl1 hgl2 hgl3 hrl hrl1 hrl2 hrl3 fr0 fr1 fr2 hn5 z7
          go_upto_region 18 with fail
          go_cut [11] (fun s11 wx => Made wr 3 (V.ref 1) ⟨k2, n2, s2⟩ (vs ++ List.replicate (m - n) V.null) s11 wx)
          case first =>
            go_region_held3 (fun w' => w'.cell? ⟨w.heap.size, 0, none⟩ = some (.int .i64 k2) ∧ w'.cell? ⟨w.heap.size, 1, none⟩ = some (.int .i64 n2) ∧ w'.cell? ⟨w.heap.size, 2, none⟩ = some (.string s2)) ((first | (refine ⟨?_, ?_, ?_⟩ <;> (rw [hb.cell (by simp; omega)]; go_simp)) | (refine ⟨?_, ?_, ?_⟩ <;> go_simp)))
             (first
              | (go_at_call 17; refine (ref_any _ _).mono ?_; rintro e w' ⟨rfl, rfl⟩; unfold V.agg V.ref)
              | (go_at_call 16; refine (new_any _ _ _ _ _ _ _ _ m _ (V.ref 1) ⟨k2, n2, s2⟩ A n _ vs _ (by omega) hn (by exact HV3.out.alloc _) (wr.heap.size + 1) (by simp)).mono ?_; rintro e w' ⟨rfl, hsz, hb, hrg, hfr⟩))
            all_goals (go_wp2_with fail; go_meet)
            case rel =>
              have hk : Below wr.heap.size wr w' := below_chain hb (by repeat (first | exact Below.refl _ _ | refine Below.drew ?_ | refine below_alloc ?_ _))
              exact ⟨_, _, rfl, by omega, by omega, by omega, hk, hrg, hfr⟩
          case rest =>
            obtain ⟨r2, g2, rfl, hr3, hg3, hrg3, hb3, hbr3, hbg3⟩ := hcut
            have hL := HLN.out
            rw [hL] at hbg3
            have HV4 : Hid (RdV wc A n vs) := HV3.out.below hb3
            have HW2 : Hid (Below w.heap.size w wc) := HW.out.trans (hb3.mono HW.out.size)
            have HR3 : Hid (RdV wc (some ⟨r2, 0, none⟩) m (vs ++ List.replicate (m - n) V.null)) := Rd.of_blk hbr3 (by rw [vcs_length, hL])
            have g7 : wc.cell? ⟨g2, 7, none⟩ = some (.slice (some ⟨r2, 0, none⟩) m m) := hbg3.cell rfl
            clear y0 y1 y2 hr3 hg3 hrg3 hb3 hbr3 hbg3 hL hxl
            unfold ptr
            go_wp2
            obtain ⟨wo, rfl⟩ : ∃ wo : World, wo = wc := ⟨_, rfl⟩
            go_loopg [133] n (fun gk i wx => ∃ j q : Nat, j ≤ n ∧ gk = n - j ∧ i = .int .i64 j ∧ wx = wo.drewN q)
            case atStart => exact ⟨0, 0, Nat.zero_le _, rfl, rfl, rfl⟩
            case round =>
              obtain ⟨j, q, hj, hgk, rfl, rfl⟩ := hrel
              have HG := Lib.hid hgk
              clear hgk
              by_cases hlt : j < n
              · obtain ⟨b, o, v, rfl, hbl, hv, e0, e1, e2⟩ := RdV.at_ HV4.out hlt
                obtain ⟨b2, o2, v2, hb2, hbl2, hv2, d0, d1, d2⟩ := RdV.at_ HR3.out (i := j) (by omega)
                injection hb2 with hb2
                injection hb2 with hb2 ho2
                subst hb2; subst ho2
                have hvv : v2 = v := by
                  rw [List.getElem?_append_left (by rw [RdV.len HV4.out]; exact hlt), hv] at hv2
                  injection hv2 with h; exact h.symm
                subst hvv
                obtain ⟨vk, vn, vs0⟩ := v2
                simp only [Nat.zero_add] at d0 d1 d2 e0 e1 e2
                have i1 : (0 : Int) ≤ (j : Int) := by omega
                have i2 : (j : Int) < (m : Int) := by omega
                have i3 : (j : Int) < (n : Int) := by omega
                clear hv hv2 hbl hbl2
                go_wp2
                go_quiet (fail)
                go_wp2
                go_roundg (n - (j + 1))
                case rel => exact ⟨j + 1, _, by omega, rfl, by go_num, rfl⟩
                case measure => have := HG.out; omega
              · go_wp2
                go_ret
                exact ⟨rfl, ⟨HW2.out.os, HW2.out.tape, HW2.out.output, HW2.out.size, HW2.out.block⟩⟩
end Go.Proofs.Ytpcamgjfikipgaa
