/- dreytop.WholeDepth where its guards let go on. Conditions: at most 80 frames. -/
import Derived.Test.YtpcamgjfikipgaaMeter
namespace Go.Proofs.Ytpcamgjfikipgaa
open Go.RowKit
set_option linter.unusedVariables false
/-- A frame of WholeDepth. -/
def FrD (B : Nat) (w : World) (b : Nat) (d : FU) : Prop := Blk w b 40 d.cs ∧ B ≤ b ∧ d.st = none ∧ d.pc = 1 ∧ ∃ R regs, d.rg = .slice (some ⟨R, 0, none⟩) 1 1 ∧ Blk w R 25 (vcs regs) ∧ regs.length = 1 ∧ B ≤ R
theorem FrD.lit (B : Nat) : Lit (FrD B) := by
  intro w w' S b d h k hs
  obtain ⟨h1, h2, h3, h4, R, regs, h5, h6, h7, h8⟩ := h
  exact ⟨h1.kp k (hs.off h1 (by decide) (by decide)), h2, h3, h4, R, regs, h5, h6.kp k (hs.off h6 (by decide) (by decide)), h7, h8⟩
def f0D : FnD := ⟨1, [], none, 0⟩
def f1D (S : Nat) : FnD := ⟨1, [⟨0, 5, 3, 0⟩], some ⟨S, 0, none⟩, 1⟩
/-- Which function each frame is of. -/
def okD (a : Int) (ps : List (Nat × FU)) : Prop := ∀ (i : Nat) (p : Nat × FU), ps[i]? = some p → p.2.fn = if (i : Int) = a then 1 else 0
theorem okD_snoc {a : Int} {ps : List (Nat × FU)} (h : okD a ps) {b : Nat} {d : FU} (hd : d.fn = if (ps.length : Int) = a then 1 else 0) : okD a (ps ++ [(b, d)]) := by
  intro i p hp
  by_cases hi : i < ps.length
  · rw [List.getElem?_append_left hi] at hp
    exact h i p hp
  · rw [List.getElem?_append_right (by omega)] at hp
    have : i = ps.length := by
      have := (List.getElem?_eq_some_iff.1 hp).1
      simp at this
      omega
    subst this
    simp at hp
    subst hp
    exact hd
theorem look_D {w : World} {B b S : Nat} {d : FU} (h : FrD B w b d) : (d.fn = 0 → d.look [f0D, f1D S] = none) ∧ (d.fn = 1 → d.look [f0D, f1D S] = some ⟨0, 5, 3, 0⟩) := by
  obtain ⟨_, _, h3, h4, _⟩ := h
  refine ⟨fun h => ?_, fun h => ?_⟩
  · unfold FU.look; rw [if_pos ⟨h3, by omega⟩, h, h4]; rfl
  · unfold FU.look; rw [if_pos ⟨h3, by omega⟩, h, h4]; rfl
theorem findU_D {w : World} {B S : Nat} {a : Int} {ps : List (Nat × FU)} (h : ∀ p ∈ ps, FrD B w p.1 p.2) (ho : okD a ps) (n : Nat) (hn : n ≤ ps.length) : findU [f0D, f1D S] (ps.map (·.2)) n = if 0 ≤ a ∧ a < n then some (a.toNat, ⟨0, 5, 3, 0⟩) else none := by
  induction n with
  | zero => rw [if_neg (by omega)]; rfl
  | succ n ih =>
    obtain ⟨p, hp⟩ : ∃ p, ps[n]? = some p := ⟨_, List.getElem?_eq_getElem (by omega)⟩
    have hd : (ps.map (·.2))[n]? = some p.2 := by rw [List.getElem?_map, hp]; rfl
    have hfn := ho n p hp
    have hl := look_D (S := S) (h p (List.mem_of_getElem? hp))
    by_cases hna : (n : Int) = a
    · rw [if_pos hna] at hfn
      rw [findU_hit hd (hl.2 hfn), if_pos (by omega)]
      congr 2
      omega
    · rw [if_neg hna] at hfn
      rw [findU_step hd (hl.1 hfn), ih (by omega)]
      by_cases h1 : 0 ≤ a ∧ a < (n : Int)
      · rw [if_pos h1, if_pos (by omega)]
      · rw [if_neg h1, if_neg (by omega)]
/-- A frame that frame.New made in a loop. -/
def GD (k : Int) (w : World) (s : Value) (wx : World) : Prop := ∃ (r g : Nat) (regs : List V), s = .pointer (some ⟨g, 0, none⟩) ∧ Below w.heap.size w wx ∧ w.heap.size ≤ r ∧ w.heap.size ≤ g ∧ Blk wx r 25 (vcs regs) ∧ regs.length = 1 ∧ Blk wx g 40 (fcs k V.null V.null (.slice (some ⟨r, 0, none⟩) 1 1) 0 0 0 V.null (.pointer none) (-1))
/-- The program of WholeDepth, and what was there. -/
def DW (w : World) (S g : Nat) (wx : World) : Prop := Blk wx S 57 (TryD.cs ⟨0, 5, 3, 0⟩) ∧ Blk wx (S + 1) 33 (fncs [f0D, f1D S]) ∧ Blk wx (S + 1 + 1) 60 [.slice (some ⟨S + 1, 0, none⟩) 2 2] ∧ Below w.heap.size w wx
theorem DW.kp {w w1 w2 : World} {S g : Nat} {T : Nat → Prop} (h : DW w S g w1) (k : Kp T w1 w2) (hs : ∀ b, T b → (b = g ∨ S + 1 + 1 + 1 ≤ b)) (hg : g < S) (hgw : w.heap.size ≤ g) : DW w S g w2 := by
  obtain ⟨h1, h2, h3, h4⟩ := h
  exact ⟨h1.kp k (fun h => by have := hs _ h; omega), h2.kp k (fun h => by have := hs _ h; omega), h3.kp k (fun h => by have := hs _ h; omega), h4.trans (kp_below2 k h4.size (fun b hb => by have := hs b hb; omega))⟩
theorem PS.kpg {w w' : World} {B g sb : Nat} {lv : Value} {ps : List (Nat × FU)} (h : PS (FrD B) w sb B lv ps) (k : Kp (fun b => b = g) w w') (hg : g < B) (hs : g ≠ sb) : PS (FrD B) w' sb B lv ps := by
  refine ⟨h.stk.kp k (fun e => hs e.symm) (fun x hx e => by have := (World.ownsRow.lt h.stk.own x hx).1; omega), fun p hp => ?_⟩
  obtain ⟨h1, h2, h3, h4, R, regs, h5, h6, h7, h8⟩ := h.frs p hp
  exact ⟨h1.kp k (fun e => by omega), h2, h3, h4, R, regs, h5, h6.kp k (fun e => by omega), h7, h8⟩
/-- What Catch has left in WholeDepth. -/
def D21 (w : World) (S g D M n : Nat) (ok : Bool) (bs : List Nat) (s11 s12 : Value) (wx : World) : Prop := ∃ (A : Option Addr) (c : Nat) (lv : Value), s11 = .slice A n c ∧ s12 = .bool ok ∧ Stk wx (S + 1 + 1 + 1) 47 [lv] 0 (S + 1 + 1 + 1 + 1) lv bs ∧ Blk wx g 114 (mcs D M) ∧ Below w.heap.size w wx
theorem rdf_two {w : World} {S : Nat} (h1 : Blk w S 57 (TryD.cs ⟨0, 5, 3, 0⟩)) (h2 : Blk w (S + 1) 33 (fncs [f0D, f1D S])) : RdF w (some ⟨S + 1, 0, none⟩) [f0D, f1D S] := by
  refine ⟨Rd.of_blk (cs := fncs [f0D, f1D S]) (t := 33) h2 rfl, fun f hf => ?_⟩
  simp at hf
  rcases hf with rfl | rfl
  · exact ⟨Rd.nil _ _ _, by simp [f0D]⟩
  · exact ⟨Rd.of_blk (t := 57) h1 rfl, by simp [f1D]⟩
theorem frs_D {w : World} {B : Nat} {ps : List (Nat × FU)} (h : ∀ p ∈ ps, FrD B w p.1 p.2) : ∀ (i b : Nat) (d : FU), (ps.map (·.1))[i]? = some b → (ps.map (·.2))[i]? = some d → Blk w b 40 d.cs ∧ 0 ≤ d.pc ∧ d.pc ≤ 9223372036854775807 := by
  intro i b d h1 h2
  rcases hp : ps[i]? with _ | p
  · rw [List.getElem?_map, hp] at h1; simp at h1
  · rw [List.getElem?_map, hp] at h1 h2
    simp at h1 h2
    subst h1; subst h2
    obtain ⟨a1, _, _, a4, _⟩ := h p (List.mem_of_getElem? hp)
    exact ⟨a1, by omega, by omega⟩
theorem catch_D_none {w wr W : World} {S g D M : Nat} {a : Int} {lv : Value} {ps : List (Nat × FU)} (hP : PS (FrD (S + 1 + 1 + 1 + 1)) wr (S + 1 + 1 + 1) (S + 1 + 1 + 1 + 1) lv ps) (hO : okD a ps) (hX : DW w S g wr) (hM : Blk wr g 114 (mcs D M)) (hg : g < S) (hgw : w.heap.size ≤ g) (hl : ps.length = D) (hD : D ≤ 80) (hth : ¬ (0 ≤ a ∧ a < (D : Int))) (hW : Below wr.heap.size wr W) :
    Calls Try.prog 32 #[.agg #[.slice (some ⟨S + 1, 0, none⟩) 2 2], .pointer (some ⟨S + 1 + 1 + 1, 0, none⟩), (V.int 7).agg] W (fun e w' => ∃ s11 s12, e = .returned (.tuple #[s11, s12]) ∧ D21 w S g D M D false [] s11 s12 w' ∧ w'.cell? ⟨S + 1 + 1, 0, none⟩ = some (.slice (some ⟨S + 1, 0, none⟩) 2 2)) := by
  have hp := hP.below (FrD.lit _) hW
  have hx := hX.kp (T := fun _ => False) (Kp.of_below hW) (fun _ h => h.elim) hg hgw
  have hfu : findU [f0D, f1D S] (ps.map (·.2)) (ps.map (·.1)).length = none := by
    rw [List.length_map, findU_D hP.frs hO _ (Nat.le_refl _), if_neg (by omega)]
  have hc := catch_none hp.stk (cf := 2) (rdf_two hx.1 hx.2.1) (by simp) (ps.map (·.2)) (by simp) (frs_D hp.frs) (by simp; omega) (V.int 7) hfu
  refine hc.mono ?_
  rintro e w' ⟨v, lv', rfl, ho, hs, hlv, hk⟩
  have e0 : (atU none + 1).toNat = 0 := rfl
  rw [e0, List.drop_zero, List.length_map, hl] at ho
  rw [e0, List.take_zero] at hs
  obtain ⟨A, c, rfl, _⟩ := own_form ho
  have hkb : ∀ b, (b = S + 1 + 1 + 1 ∨ lv.ownBlock = some b) → S + 1 + 1 + 1 ≤ b := fun b hb => by
    rcases hb with rfl | hb
    · exact Nat.le_refl _
    · have := (World.ownsRow.lt hp.stk.own b hb).1; omega
  have hx' := hx.kp hk (fun b hb => .inr (hkb b hb)) hg hgw
  exact ⟨_, _, rfl, ⟨A, c, lv', rfl, rfl, hs, (hM.below hW hM.lt).kp hk (fun h => by have := hkb _ h; omega), hx'.2.2.2⟩, hx'.2.2.1.cell rfl⟩
/-- The frame that goes on. -/
def E21 (S : Nat) (bs : List Nat) (wx : World) (b R cr : Nat) : Prop := bs.getLast? = some b ∧ S < b ∧ S < R ∧ b < wx.heap.size ∧ R < wx.heap.size ∧ wx.cell? ⟨b, 7, none⟩ = some (.slice (some ⟨R, 0, none⟩) 1 cr) ∧ wx.cell? ⟨b, 8, none⟩ = some (.int .i64 3) ∧ wx.cell? ⟨R, 0, none⟩ = some (.int .i64 2) ∧ wx.cell? ⟨R, 1, none⟩ = some (.int .i64 7) ∧ wx.cell? ⟨R, 2, none⟩ = some (.string ⟨#[]⟩)
theorem catch_D_some {w wr W : World} {S g D M i p : Nat} {lv : Value} {ps : List (Nat × FU)} (hP : PS (FrD (S + 1 + 1 + 1 + 1)) wr (S + 1 + 1 + 1) (S + 1 + 1 + 1 + 1) lv ps) (hO : okD (i : Int) ps) (hX : DW w S g wr) (hM : Blk wr g 114 (mcs D M)) (hg : g < S) (hgw : w.heap.size ≤ g) (hl : ps.length = D) (hD : D ≤ 80) (hp : D = i + 1 + p) (hW : Below wr.heap.size wr W) :
    Calls Try.prog 32 #[.agg #[.slice (some ⟨S + 1, 0, none⟩) 2 2], .pointer (some ⟨S + 1 + 1 + 1, 0, none⟩), (V.int 7).agg] W (fun e w' => ∃ s11 s12, e = .returned (.tuple #[s11, s12]) ∧ D21 w S g D M p true ((ps.map (·.1)).take (i + 1)) s11 s12 w' ∧ (∃ b R cr, E21 S ((ps.map (·.1)).take (i + 1)) w' b R cr) ∧ w'.cell? ⟨S + 1 + 1, 0, none⟩ = some (.slice (some ⟨S + 1, 0, none⟩) 2 2)) := by
  have hp2 := hP.below (FrD.lit _) hW
  have hx := hX.kp (T := fun _ => False) (Kp.of_below hW) (fun _ h => h.elim) hg hgw
  have hfu : findU [f0D, f1D S] (ps.map (·.2)) (ps.map (·.1)).length = some (i, ⟨0, 5, 3, 0⟩) := by
    rw [List.length_map, findU_D hP.frs hO _ (Nat.le_refl _), if_pos (by omega)]
    rfl
  obtain ⟨pr, hpr⟩ : ∃ pr, ps[i]? = some pr := ⟨_, List.getElem?_eq_getElem (by omega)⟩
  obtain ⟨f1, f2, f3, f4, R, regs, f5, f6, f7, f8⟩ := hp2.frs pr (List.mem_of_getElem? hpr)
  have hb : (ps.map (·.1))[i]? = some pr.1 := by rw [List.getElem?_map, hpr]; rfl
  have hd : (ps.map (·.2))[i]? = some pr.2 := by rw [List.getElem?_map, hpr]; rfl
  have hc := catch_some hp2.stk (by decide) (by decide) (cf := 2) (rdf_two hx.1 hx.2.1) (by simp) (ps.map (·.2)) (by simp) (frs_D hp2.frs) (by simp; omega) (V.int 7) hfu hb hd (R := R) (regs := regs) (c := 1) (by rw [f7]; exact f5) f6 0 rfl (by omega) (by omega)
  refine hc.mono ?_
  rintro e w' ⟨v, lv', rfl, ho, hs, hlv, b', d', R', regs', c', hb', hd', hrg', hR', hbb, hRR, hk⟩
  rw [hb] at hb'
  rw [hd] at hd'
  injection hb' with hb'
  injection hd' with hd'
  subst hb'; subst hd'
  rw [f5] at hrg'
  injection hrg' with e1 e2 e3
  injection e1 with e1
  injection e1 with e1
  subst e1
  have e0 : (atU (some (i, (⟨0, 5, 3, 0⟩ : TryD))) + 1).toNat = i + 1 := by show ((i : Int) + 1).toNat = _; omega
  have hlen : ((ps.map (·.1)).drop (i + 1)).length = p := by rw [List.length_drop, List.length_map, hl]; omega
  rw [e0, hlen] at ho
  rw [e0] at hs
  obtain ⟨A, c, rfl, _⟩ := own_form ho
  have hkb : ∀ b, (b = S + 1 + 1 + 1 ∨ lv.ownBlock = some b ∨ b = pr.1 ∨ b = R) → S + 1 + 1 + 1 ≤ b := fun b hb => by
    rcases hb with rfl | hb | rfl | rfl
    · exact Nat.le_refl _
    · have := (World.ownsRow.lt hp2.stk.own b hb).1; omega
    · omega
    · omega
  have hx' := hx.kp hk (fun b hb => .inr (hkb b hb)) hg hgw
  have hth : (regs'.set 0 (V.int 7))[0]? = some (V.int 7) := by rw [List.getElem?_set_self (by omega)]
  obtain ⟨t0, t1, t2⟩ := vcs_at hth
  have htk : ((ps.map (·.1)).take (i + 1)).getLast? = some pr.1 := by
    rw [List.getLast?_eq_getElem?, List.length_take, List.length_map, Nat.min_eq_left (by omega)]
    simpa [List.getElem?_take] using hb
  refine ⟨_, _, rfl, ⟨A, c, lv', rfl, rfl, hs, (hM.below hW hM.lt).kp hk (fun h => by have := hkb _ h; omega), hx'.2.2.2⟩, ⟨pr.1, R, 1, htk, by omega, by omega, hbb.lt, hRR.lt, ?_, hbb.cell rfl, hRR.cell t0, hRR.cell t1, hRR.cell t2⟩, hx'.2.2.1.cell rfl⟩
  rw [hbb.cell (i := 7) (v := pr.2.rg) rfl, f5]
set_option maxRecDepth 100000 in
set_option maxHeartbeats 4000000 in
theorem wholeDepth_walk (D : Nat) (a : Int) (hD : D ≤ 80) (ha : -9223372036854775808 ≤ a ∧ a ≤ 9223372036854775807) (w : World) : Calls Try.prog 7 #[.int .i64 D, .int .i64 a] w fun e w' => e = .returned (.bool true) ∧ Below w.heap.size w w' := by
  have t1 : decide ((D : Int) < 0) = false := by simp
  have t2 : decide ((80 : Int) < (D : Int)) = false := by simp; omega
  go_enter Try.func7, Try.ntmps7
  go_wp2_with (first
    | (go_at_call 35; refine (meter_new _).mono ?_; rintro e w1 ⟨g, rfl, hg1, hm1, hb1⟩; have HM1 := Lib.hid hm1; have HB1 := Lib.hid hb1; have hg1' := hg1; have hnn := fun W => run_eql_ptr_nil (P := Try.prog) W (tp := 71) ⟨g, 0, none⟩ Try.underlying71; clear hm1 hb1 hg1)
    | (go_at_call 36; refine (enter_any HM1.out (by omega) (by omega)).mono ?_; rintro e w2 ⟨rfl, hm2, hk2⟩; have HM2 := Lib.hid hm2; have HK2 := Lib.hid hk2; clear hm2 hk2)
    | (go_at_call 37; refine (leave_any HM2.out (by omega) 1 (by omega)).mono ?_; rintro e w3 ⟨rfl, hm3, hk3⟩; have HM3 := Lib.hid hm3; have HK3 := Lib.hid hk3; clear hm3 hk3; obtain ⟨S, hS⟩ : ∃ S, w3.heap.size = S := ⟨_, rfl⟩))
  have hSg : g < S := by have := HM3.out.lt; omega
  have hSw : Hid (Below w.heap.size w w3) := Lib.hid (HB1.out.trans (kp_below2 (HK2.out.trans HK3.out (fun _ _ h => h)) HB1.out.size (fun b hb => by omega)))
  have hSW : w.heap.size ≤ S := by have := hSw.out.size; omega
  go_loopg [41] D (fun gk s wr => ∃ (k : Nat) (ps : List (Nat × FU)) (lv : Value), k ≤ D ∧ gk = D - k ∧ s = .int .i64 k ∧ ps.length = k ∧ PS (FrD (S + 1 + 1 + 1 + 1)) wr (S + 1 + 1 + 1) (S + 1 + 1 + 1 + 1) lv ps ∧ okD a ps ∧ DW w S g wr ∧ Blk wr g 114 (mcs k (max 1 k)))
  case atStart =>
    refine ⟨0, [], .slice none 0 0, Nat.zero_le _, rfl, rfl, rfl, ⟨⟨?_, rfl, World.ownsRow_nil _ _ _ _, by simp [Value.ownBlock], by simp [hS]⟩, fun p hp => by simp at hp⟩, fun i p hp => by simp at hp, ⟨?_, ?_, ?_, ?_⟩, ?_⟩
    · exact Blk.made (by simp [hS]) 47 _
    · exact (((Blk.made hS 57 (TryD.cs ⟨0, 5, 3, 0⟩)).alloc _).alloc _).alloc _
    · exact ((Blk.made (by simp [hS]) 33 (fncs [f0D, f1D S])).alloc _).alloc _
    · exact (Blk.made (by simp [hS]) 60 _).alloc _
    · exact below_alloc (below_alloc (below_alloc (below_alloc hSw.out _) _) _) _
    · exact (((HM3.out.alloc _).alloc _).alloc _).alloc _
  case round =>
    obtain ⟨k, ps, lv, hk, hgk, rfl, hpk, hps, hok, hx, hm⟩ := hrel
    have HG := Lib.hid hgk
    have HP := Lib.hid hps
    have HO := Lib.hid hok
    have HPK := Lib.hid hpk
    have HX := Lib.hid hx
    have HM := Lib.hid hm
    have hst := hps.stk.blk.lt
    clear hgk hps hok hpk hx hm
    by_cases hlt : k < D
    · have hk100 : k < 100 := by omega
      have hm100 : max 1 k ≤ 100 := by omega
      by_cases hka : (k : Int) = a
      · have HKA := Lib.hid hka
        subst hka
        have hs1 : S + 1 < wr.heap.size := by omega

        go_upto_region 17 with (first
          | (go_at_call 36; refine (enter_any HM.out hk100 hm100).mono ?_; rintro e we ⟨rfl, hme, hke⟩; have HME := Lib.hid hme; have HKE := Lib.hid hke; have hse : S + 1 + 1 + 1 < we.heap.size := Nat.lt_of_lt_of_le hst hke.size; have hse1 : S + 1 < we.heap.size := (by omega); have hse2 : S + 1 < we.heap.size + 1 := (by omega); have hse3 : S + 1 + 1 < we.heap.size := (by omega); have hse4 : S + 1 + 1 < we.heap.size + 1 := (by omega); have y0 : we.cell? ⟨S + 1 + 1, 0, none⟩ = some (.slice (some ⟨S + 1, 0, none⟩) 2 2) := (hke.cell (p := ⟨S + 1 + 1, 0, none⟩) (by simp only; omega) (by simp only; omega)).trans (HX.out.2.2.1.cell rfl); have y1 : we.cell? ⟨S + 1, 9, none⟩ = some (.slice none 0 0) := (hke.cell (p := ⟨S + 1, 9, none⟩) (by simp only; omega) (by simp only; omega)).trans (HX.out.2.1.cell rfl); have y2 : we.cell? ⟨S + 1, 10, none⟩ = some (.slice none 0 0) := (hke.cell (p := ⟨S + 1, 10, none⟩) (by simp only; omega) (by simp only; omega)).trans (HX.out.2.1.cell rfl); have y3 : we.cell? ⟨S + 1, 11, none⟩ = some (.int .i64 1) := (hke.cell (p := ⟨S + 1, 11, none⟩) (by simp only; omega) (by simp only; omega)).trans (HX.out.2.1.cell rfl); have y4 : we.cell? ⟨S + 1, 12, none⟩ = some (.int .i64 0) := (hke.cell (p := ⟨S + 1, 12, none⟩) (by simp only; omega) (by simp only; omega)).trans (HX.out.2.1.cell rfl); have y5 : we.cell? ⟨S + 1, 13, none⟩ = some (.int .i64 0) := (hke.cell (p := ⟨S + 1, 13, none⟩) (by simp only; omega) (by simp only; omega)).trans (HX.out.2.1.cell rfl); have y6 : we.cell? ⟨S + 1, 14, none⟩ = some (.slice none 0 0) := (hke.cell (p := ⟨S + 1, 14, none⟩) (by simp only; omega) (by simp only; omega)).trans (HX.out.2.1.cell rfl); have y7 : we.cell? ⟨S + 1, 15, none⟩ = some (.slice (some ⟨S, 0, none⟩) 1 1) := (hke.cell (p := ⟨S + 1, 15, none⟩) (by simp only; omega) (by simp only; omega)).trans (HX.out.2.1.cell rfl); have y8 : we.cell? ⟨S + 1, 16, none⟩ = some (.bool false) := (hke.cell (p := ⟨S + 1, 16, none⟩) (by simp only; omega) (by simp only; omega)).trans (HX.out.2.1.cell rfl); have y9 : we.cell? ⟨S + 1, 17, none⟩ = some (.string ⟨#[]⟩) := (hke.cell (p := ⟨S + 1, 17, none⟩) (by simp only; omega) (by simp only; omega)).trans (HX.out.2.1.cell rfl); clear hme hke))
        go_cut [10] (fun s10 wx => GD 1 we s10 wx)
        case first =>
          go_region_held3 (fun w' => w'.cell? ⟨S + 1 + 1, 0, none⟩ = some (.slice (some ⟨S + 1, 0, none⟩) 2 2) ∧ w'.cell? ⟨S + 1, 9, none⟩ = some (.slice none 0 0) ∧ w'.cell? ⟨S + 1, 10, none⟩ = some (.slice none 0 0) ∧ w'.cell? ⟨S + 1, 11, none⟩ = some (.int .i64 1) ∧ w'.cell? ⟨S + 1, 12, none⟩ = some (.int .i64 0) ∧ w'.cell? ⟨S + 1, 13, none⟩ = some (.int .i64 0) ∧ w'.cell? ⟨S + 1, 14, none⟩ = some (.slice none 0 0) ∧ w'.cell? ⟨S + 1, 15, none⟩ = some (.slice (some ⟨S, 0, none⟩) 1 1) ∧ w'.cell? ⟨S + 1, 16, none⟩ = some (.bool false) ∧ w'.cell? ⟨S + 1, 17, none⟩ = some (.string ⟨#[]⟩)) ((first | (refine ⟨?_, ?_, ?_, ?_, ?_, ?_, ?_, ?_, ?_, ?_⟩ <;> (rw [hb.cell (by simp; omega)]; go_simp)) | (refine ⟨?_, ?_, ?_, ?_, ?_, ?_, ?_, ?_, ?_, ?_⟩ <;> go_simp)))
           (first
            | (go_at_call 18; refine (null_any _).mono ?_; rintro e w' ⟨rfl, rfl⟩; unfold V.agg V.null)
            | (go_at_call 16; refine (new_any _ _ _ _ _ _ _ _ 1 _ V.null V.null none 0 0 [] _ (by omega) (by omega) (Rd.nil _ _ _) (we.heap.size + 1 + 1) (by simp)).mono ?_; rintro e w3 ⟨rfl, hsz3, hb, hr3, hg3⟩))
          all_goals (go_wp2_with fail; go_meet)
          case rel =>
            have hk : Below we.heap.size we w3 := below_chain hb (by repeat (first | exact Below.refl _ _ | refine Below.drew ?_ | refine below_alloc ?_ _))
            exact ⟨_, _, _, rfl, hk, by omega, by omega, hr3, rfl, hg3⟩
        case rest =>
          obtain ⟨r, g2, regs, rfl, hbx, hrl, hgl, hr2, hrn, hg2⟩ := hcut
          have hrg : r ≠ g2 := by
            rintro rfl
            have h1 := hg2
            have h2 := hr2
            unfold Blk at h1 h2
            rw [h1] at h2
            injection h2 with e
            injection e with _ e
            cases e
          have hgw := hg2.lt
          have f8 := hg2.frozen 8
          have x8 : wc.cell? ⟨g2, 8, none⟩ = some (.int .i64 0) := hg2.cell rfl
          have hg3 := hg2.set_ 8 (.int .i64 1)
          have kset : Below we.heap.size we (wc.setCell ⟨g2, 8, none⟩ (.int .i64 1)) := hbx.setCell hgl _
          have hr3 : Blk (wc.setCell ⟨g2, 8, none⟩ (.int .i64 1)) r 25 (vcs regs) := hr2.far (p := ⟨g2, 8, none⟩) hrg _
          have HP3 : Hid (PS (FrD (S + 1 + 1 + 1 + 1)) (wc.setCell ⟨g2, 8, none⟩ (.int .i64 1)) (S + 1 + 1 + 1) (S + 1 + 1 + 1 + 1) lv ps) := Lib.hid ((HP.out.kpg HKE.out (by omega) (by omega)).below (FrD.lit _) kset)
          have HF3 : Hid (FrD (S + 1 + 1 + 1 + 1) (wc.setCell ⟨g2, 8, none⟩ (.int .i64 1)) g2 ⟨1, V.null, V.null, .slice (some ⟨r, 0, none⟩) 1 1, 1, 0, 0, V.null, none, -1⟩) := Lib.hid ⟨hg3, by omega, rfl, rfl, r, regs, rfl, hr3, hrn, by omega⟩
          have HX3 : Hid (DW w S g (wc.setCell ⟨g2, 8, none⟩ (.int .i64 1))) := Lib.hid ((HX.out.kp HKE.out (fun b h => .inl h) hSg hg1').kp (T := fun _ => False) (Kp.of_below kset) (fun _ h => h.elim) hSg hg1')
          have HM3 : Hid (Blk (wc.setCell ⟨g2, 8, none⟩ (.int .i64 1)) g 114 (mcs (k + 1) (max (max 1 k) (k + 1)))) := Lib.hid (HME.out.below kset HME.out.lt)
          clear hg3 hr3 hbx hr2 hg2 kset
          have hpl5 : ps.length ≤ 80 := by have := HPK.out; omega
          go_wp2_with (first
            | (go_at_call 23; refine (push_any HP3.out.stk g2 (by simp; omega)).mono ?_; rintro e w4 ⟨rfl, lv4, hs4, hk4, hf4⟩; have R4 := Lib.hid (And.intro hs4 (And.intro hk4 hf4)); clear hs4 hk4 hf4))
          go_roundg (D - (k + 1))
          case rel =>
            obtain ⟨hs4, hk4, hf4⟩ := R4.out
            have HK := HPK.out
            have hkb : ∀ b, (b = S + 1 + 1 + 1 ∨ lv.ownBlock = some b) → S + 1 + 1 + 1 ≤ b := fun b hb => by
              rcases hb with rfl | hb
              · exact Nat.le_refl _
              · have := (World.ownsRow.lt HP3.out.stk.own b hb).1; omega
            refine ⟨k + 1, ps ++ [(g2, ⟨1, V.null, V.null, .slice (some ⟨r, 0, none⟩) 1 1, 1, 0, 0, V.null, none, -1⟩)], lv4, by omega, rfl, by go_num, by simp; omega, PS.push (FrD.lit _) HP3.out HF3.out hs4 hk4, okD_snoc HO.out ?_, HX3.out.kp hk4 (fun b hb => .inr (hkb b hb)) hSg hg1', ?_⟩
            · rw [HK]; rw [if_pos rfl]
            · have e : max (max 1 k) (k + 1) = max 1 (k + 1) := by omega
              rw [← e]
              exact HM3.out.kp hk4 (fun h => by have := hkb _ h; omega)
          case measure => (have := HG.out; omega)

      · have qa : ((k : Int) == a) = false := by simpa using hka
        have HKA := Lib.hid hka
        clear hka
        have hs1 : S + 1 < wr.heap.size := by omega

        go_upto_region 17 with (first
          | (go_at_call 36; refine (enter_any HM.out hk100 hm100).mono ?_; rintro e we ⟨rfl, hme, hke⟩; have HME := Lib.hid hme; have HKE := Lib.hid hke; have hse : S + 1 + 1 + 1 < we.heap.size := Nat.lt_of_lt_of_le hst hke.size; have hse1 : S + 1 < we.heap.size := (by omega); have hse2 : S + 1 < we.heap.size + 1 := (by omega); have hse3 : S + 1 + 1 < we.heap.size := (by omega); have hse4 : S + 1 + 1 < we.heap.size + 1 := (by omega); have y0 : we.cell? ⟨S + 1 + 1, 0, none⟩ = some (.slice (some ⟨S + 1, 0, none⟩) 2 2) := (hke.cell (p := ⟨S + 1 + 1, 0, none⟩) (by simp only; omega) (by simp only; omega)).trans (HX.out.2.2.1.cell rfl); have y1 : we.cell? ⟨S + 1, 0, none⟩ = some (.slice none 0 0) := (hke.cell (p := ⟨S + 1, 0, none⟩) (by simp only; omega) (by simp only; omega)).trans (HX.out.2.1.cell rfl); have y2 : we.cell? ⟨S + 1, 1, none⟩ = some (.slice none 0 0) := (hke.cell (p := ⟨S + 1, 1, none⟩) (by simp only; omega) (by simp only; omega)).trans (HX.out.2.1.cell rfl); have y3 : we.cell? ⟨S + 1, 2, none⟩ = some (.int .i64 1) := (hke.cell (p := ⟨S + 1, 2, none⟩) (by simp only; omega) (by simp only; omega)).trans (HX.out.2.1.cell rfl); have y4 : we.cell? ⟨S + 1, 3, none⟩ = some (.int .i64 0) := (hke.cell (p := ⟨S + 1, 3, none⟩) (by simp only; omega) (by simp only; omega)).trans (HX.out.2.1.cell rfl); have y5 : we.cell? ⟨S + 1, 4, none⟩ = some (.int .i64 0) := (hke.cell (p := ⟨S + 1, 4, none⟩) (by simp only; omega) (by simp only; omega)).trans (HX.out.2.1.cell rfl); have y6 : we.cell? ⟨S + 1, 5, none⟩ = some (.slice none 0 0) := (hke.cell (p := ⟨S + 1, 5, none⟩) (by simp only; omega) (by simp only; omega)).trans (HX.out.2.1.cell rfl); have y7 : we.cell? ⟨S + 1, 6, none⟩ = some (.slice none 0 0) := (hke.cell (p := ⟨S + 1, 6, none⟩) (by simp only; omega) (by simp only; omega)).trans (HX.out.2.1.cell rfl); have y8 : we.cell? ⟨S + 1, 7, none⟩ = some (.bool false) := (hke.cell (p := ⟨S + 1, 7, none⟩) (by simp only; omega) (by simp only; omega)).trans (HX.out.2.1.cell rfl); have y9 : we.cell? ⟨S + 1, 8, none⟩ = some (.string ⟨#[]⟩) := (hke.cell (p := ⟨S + 1, 8, none⟩) (by simp only; omega) (by simp only; omega)).trans (HX.out.2.1.cell rfl); clear hme hke))
        go_cut [10] (fun s10 wx => GD 0 we s10 wx)
        case first =>
          go_region_held3 (fun w' => w'.cell? ⟨S + 1 + 1, 0, none⟩ = some (.slice (some ⟨S + 1, 0, none⟩) 2 2) ∧ w'.cell? ⟨S + 1, 0, none⟩ = some (.slice none 0 0) ∧ w'.cell? ⟨S + 1, 1, none⟩ = some (.slice none 0 0) ∧ w'.cell? ⟨S + 1, 2, none⟩ = some (.int .i64 1) ∧ w'.cell? ⟨S + 1, 3, none⟩ = some (.int .i64 0) ∧ w'.cell? ⟨S + 1, 4, none⟩ = some (.int .i64 0) ∧ w'.cell? ⟨S + 1, 5, none⟩ = some (.slice none 0 0) ∧ w'.cell? ⟨S + 1, 6, none⟩ = some (.slice none 0 0) ∧ w'.cell? ⟨S + 1, 7, none⟩ = some (.bool false) ∧ w'.cell? ⟨S + 1, 8, none⟩ = some (.string ⟨#[]⟩)) ((first | (refine ⟨?_, ?_, ?_, ?_, ?_, ?_, ?_, ?_, ?_, ?_⟩ <;> (rw [hb.cell (by simp; omega)]; go_simp)) | (refine ⟨?_, ?_, ?_, ?_, ?_, ?_, ?_, ?_, ?_, ?_⟩ <;> go_simp)))
           (first
            | (go_at_call 18; refine (null_any _).mono ?_; rintro e w' ⟨rfl, rfl⟩; unfold V.agg V.null)
            | (go_at_call 16; refine (new_any _ _ _ _ _ _ _ _ 1 _ V.null V.null none 0 0 [] _ (by omega) (by omega) (Rd.nil _ _ _) (we.heap.size + 1 + 1) (by simp)).mono ?_; rintro e w3 ⟨rfl, hsz3, hb, hr3, hg3⟩))
          all_goals (go_wp2_with fail; go_meet)
          case rel =>
            have hk : Below we.heap.size we w3 := below_chain hb (by repeat (first | exact Below.refl _ _ | refine Below.drew ?_ | refine below_alloc ?_ _))
            exact ⟨_, _, _, rfl, hk, by omega, by omega, hr3, rfl, hg3⟩
        case rest =>
          obtain ⟨r, g2, regs, rfl, hbx, hrl, hgl, hr2, hrn, hg2⟩ := hcut
          have hrg : r ≠ g2 := by
            rintro rfl
            have h1 := hg2
            have h2 := hr2
            unfold Blk at h1 h2
            rw [h1] at h2
            injection h2 with e
            injection e with _ e
            cases e
          have hgw := hg2.lt
          have f8 := hg2.frozen 8
          have x8 : wc.cell? ⟨g2, 8, none⟩ = some (.int .i64 0) := hg2.cell rfl
          have hg3 := hg2.set_ 8 (.int .i64 1)
          have kset : Below we.heap.size we (wc.setCell ⟨g2, 8, none⟩ (.int .i64 1)) := hbx.setCell hgl _
          have hr3 : Blk (wc.setCell ⟨g2, 8, none⟩ (.int .i64 1)) r 25 (vcs regs) := hr2.far (p := ⟨g2, 8, none⟩) hrg _
          have HP3 : Hid (PS (FrD (S + 1 + 1 + 1 + 1)) (wc.setCell ⟨g2, 8, none⟩ (.int .i64 1)) (S + 1 + 1 + 1) (S + 1 + 1 + 1 + 1) lv ps) := Lib.hid ((HP.out.kpg HKE.out (by omega) (by omega)).below (FrD.lit _) kset)
          have HF3 : Hid (FrD (S + 1 + 1 + 1 + 1) (wc.setCell ⟨g2, 8, none⟩ (.int .i64 1)) g2 ⟨0, V.null, V.null, .slice (some ⟨r, 0, none⟩) 1 1, 1, 0, 0, V.null, none, -1⟩) := Lib.hid ⟨hg3, by omega, rfl, rfl, r, regs, rfl, hr3, hrn, by omega⟩
          have HX3 : Hid (DW w S g (wc.setCell ⟨g2, 8, none⟩ (.int .i64 1))) := Lib.hid ((HX.out.kp HKE.out (fun b h => .inl h) hSg hg1').kp (T := fun _ => False) (Kp.of_below kset) (fun _ h => h.elim) hSg hg1')
          have HM3 : Hid (Blk (wc.setCell ⟨g2, 8, none⟩ (.int .i64 1)) g 114 (mcs (k + 1) (max (max 1 k) (k + 1)))) := Lib.hid (HME.out.below kset HME.out.lt)
          clear hg3 hr3 hbx hr2 hg2 kset
          have hpl5 : ps.length ≤ 80 := by have := HPK.out; omega
          go_wp2_with (first
            | (go_at_call 23; refine (push_any HP3.out.stk g2 (by simp; omega)).mono ?_; rintro e w4 ⟨rfl, lv4, hs4, hk4, hf4⟩; have R4 := Lib.hid (And.intro hs4 (And.intro hk4 hf4)); clear hs4 hk4 hf4))
          go_roundg (D - (k + 1))
          case rel =>
            obtain ⟨hs4, hk4, hf4⟩ := R4.out
            have HK := HPK.out
            have hkb : ∀ b, (b = S + 1 + 1 + 1 ∨ lv.ownBlock = some b) → S + 1 + 1 + 1 ≤ b := fun b hb => by
              rcases hb with rfl | hb
              · exact Nat.le_refl _
              · have := (World.ownsRow.lt HP3.out.stk.own b hb).1; omega
            refine ⟨k + 1, ps ++ [(g2, ⟨0, V.null, V.null, .slice (some ⟨r, 0, none⟩) 1 1, 1, 0, 0, V.null, none, -1⟩)], lv4, by omega, rfl, by go_num, by simp; omega, PS.push (FrD.lit _) HP3.out HF3.out hs4 hk4, okD_snoc HO.out ?_, HX3.out.kp hk4 (fun b hb => .inr (hkb b hb)) hSg hg1', ?_⟩
            · rw [HK]; rw [if_neg HKA.out]
            · have e : max (max 1 k) (k + 1) = max 1 (k + 1) := by omega
              rw [← e]
              exact HM3.out.kp hk4 (fun h => by have := hkb _ h; omega)
          case measure => (have := HG.out; omega)

    · obtain rfl : D = k := by omega
      have yp : wr.cell? ⟨S + 1 + 1, 0, none⟩ = some (.slice (some ⟨S + 1, 0, none⟩) 2 2) := HX.out.2.2.1.cell rfl
      have hw1 : S + 1 + 1 < wr.heap.size := by omega
      have hw2 : S + 1 + 1 < wr.heap.size + 1 := by omega
      by_cases hth : 0 ≤ a ∧ a < (D : Int)
      · obtain ⟨i, rfl⟩ := Int.eq_ofNat_of_zero_le hth.1
        have hiD : i < D := by omega
        obtain ⟨p, hp⟩ : ∃ p, D = i + 1 + p := ⟨D - (i + 1), by omega⟩
        have hpD : p ≤ 80 := by omega
        have hdd0 : D - p = i + 1 := by omega
        have HDD := Lib.hid hdd0
        have HPP := Lib.hid hp
        have hmx0 : max 1 D = D := by omega
        have HMX := Lib.hid hmx0
        clear hp hth hdd0 hmx0
        have HCAT : Hid (∀ W, Below wr.heap.size wr W → _) := Lib.hid (fun W hW => catch_D_some HP.out HO.out HX.out HM.out hSg hg1' HPK.out hD HPP.out hW)
        go_upto_region 21 with fail
        go_cut [11, 12] (fun s11 s12 wx => D21 w S g D (max 1 D) p true ((ps.map (·.1)).take (i + 1)) s11 s12 wx ∧ ∃ b R cr, E21 S ((ps.map (·.1)).take (i + 1)) wx b R cr)
        case first =>
          go_region_held3 (fun w' => w'.cell? ⟨S + 1 + 1, 0, none⟩ = some (.slice (some ⟨S + 1, 0, none⟩) 2 2)) ((first | exact hcell | go_simp))
           (first
            | (go_at_call 14; refine (int_any _ _).mono ?_; rintro e w' ⟨rfl, rfl⟩; unfold V.agg V.int)
            | (go_at_call 32; refine (HCAT.out _ (by repeat (first | exact Below.refl _ _ | refine Below.drew ?_ | refine below_alloc ?_ _))).mono ?_; rintro e w3 ⟨s6, s7, rfl, hs12, he21, hcell⟩))
          all_goals (go_wp2_with fail; go_meet)
          all_goals exact ⟨hs12, he21⟩
        case rest =>
          obtain ⟨⟨A, c, lv6, rfl, rfl, hs6, hm6, hb6⟩, b, R, cr, htk, hbS, hRS, hbl, hRl, x7, x8, r0, r1, r2⟩ := hcut
          have HS6 := Lib.hid hs6
          rw [HMX.out] at hm6
          have HM6 := Lib.hid hm6
          have HB6 := Lib.hid hb6
          have HTK := Lib.hid htk
          have HC6 := Lib.hid (And.intro x7 (And.intro x8 (And.intro r0 (And.intro r1 r2))))
          have hln : Hid (((ps.map (·.1)).take (i + 1)).length = i + 1) := Lib.hid (by rw [List.length_take, List.length_map, HPK.out]; omega)
          clear hs6 hm6 hb6 htk x7 x8 r0 r1 r2
          have q1 : decide (0 ≤ (i : Int)) = true := by simp
          have q2 : decide (i < D) = true := by simpa using hiD
          have q3 : (1 : Int) ≤ (D : Int) := by omega
          have q4 : IntKind.i64.wrap ((i : Int) + 1) = (i : Int) + 1 := IntWalk.i64_in _ (by omega)
          go_upto_region 29 with (first
            | (go_at_call 37; refine (leave_any HM6.out (by omega) p (by omega)).mono ?_; rintro e w7 ⟨rfl, hm7, hk7⟩; have HM7 := Lib.hid hm7; have HK7 := Lib.hid hk7; have HS7 : Hid (Stk w7 (S + 1 + 1 + 1) 47 [lv6] 0 (S + 1 + 1 + 1 + 1) lv6 ((ps.map (·.1)).take (i + 1))) := Lib.hid (HS6.out.kp hk7 (fun h => by omega) (fun x hx h => by have := (World.ownsRow.lt HS6.out.own x hx).1; omega)); have hsz7 := hk7.size; clear hm7 hk7)
            | (go_at_call 38; refine (used_any HM7.out).mono ?_; rintro e w8 ⟨rfl, nn, rfl⟩; rw [HDD.out])
            | (go_at_call 24; refine (len_m (m := i + 1) (HS7.out.drewN _) hln.out).mono ?_; rintro e w8 ⟨rfl, rfl⟩))
          obtain ⟨wz, hwz⟩ : ∃ wz : World, wz = w7.drewN nn := ⟨_, rfl⟩
          rw [← hwz]
          obtain ⟨x7, x8, r0, r1, r2⟩ := HC6.out
          have y7 : wz.cell? ⟨b, 7, none⟩ = some (.slice (some ⟨R, 0, none⟩) 1 cr) := by rw [hwz]; exact (HK7.out.cell (p := ⟨b, 7, none⟩) hbl (by simp only; omega)).trans x7
          have y8 : wz.cell? ⟨b, 8, none⟩ = some (.int .i64 3) := by rw [hwz]; exact (HK7.out.cell (p := ⟨b, 8, none⟩) hbl (by simp only; omega)).trans x8
          have z0 : wz.cell? ⟨R, 0, none⟩ = some (.int .i64 2) := by rw [hwz]; exact (HK7.out.cell (p := ⟨R, 0, none⟩) hRl (by simp only; omega)).trans r0
          have z1 : wz.cell? ⟨R, 1, none⟩ = some (.int .i64 7) := by rw [hwz]; exact (HK7.out.cell (p := ⟨R, 1, none⟩) hRl (by simp only; omega)).trans r1
          have z2 : wz.cell? ⟨R, 2, none⟩ = some (.string ⟨#[]⟩) := by rw [hwz]; exact (HK7.out.cell (p := ⟨R, 2, none⟩) hRl (by simp only; omega)).trans r2
          have hzs : wz.heap.size = w7.heap.size := by rw [hwz]; rfl
          have hbz : b < wz.heap.size := by omega
          have hRz : R < wz.heap.size := by omega
          have hbz1 : b < wz.heap.size + 1 := by omega
          have hRz1 : R < wz.heap.size + 1 := by omega
          have HSZ : Hid (Stk wz (S + 1 + 1 + 1) 47 [lv6] 0 (S + 1 + 1 + 1 + 1) lv6 ((ps.map (·.1)).take (i + 1))) := by rw [hwz]; exact HS7.out.drewN _
          have HBZ : Hid (Below w.heap.size w wz) := by rw [hwz]; exact below_draw (HB6.out.trans (kp_below2 HK7.out HB6.out.size (fun b hb => by omega))) (Nat.le_refl _)
          have HL : Hid (∀ W, Kp (fun _ => False) wz W → Calls Try.prog 24 #[.pointer (some ⟨S + 1 + 1 + 1, 0, none⟩)] W fun e w' => e = .returned (.int .i64 ((i + 1 : Nat) : Int)) ∧ W = w') := Lib.hid (fun W hW => len_m (HSZ.out.kp hW id (fun _ _ => id)) hln.out)
          have HTP : Hid (∀ W, Kp (fun _ => False) wz W → Calls Try.prog 33 #[.pointer (some ⟨S + 1 + 1 + 1, 0, none⟩)] W fun e w' => e = .returned (ptr b) ∧ ∃ n, w' = W.drewN n) := Lib.hid (fun W hW => top_some (HSZ.out.kp hW id (fun _ _ => id)) HTK.out (by rw [hln.out]; omega))
          have hveq := run_eql_V (V.int 7) (V.int 7)
          rw [veq_self] at hveq
          unfold V.agg V.int at hveq
          simp only at hveq
          clear hwz hzs x7 x8 r0 r1 r2 hsz7 hbl hRl
          go_cut [4] (fun s4 wx => s4 = .bool true ∧ Below w.heap.size w wx)
          case first =>
            go_region_held3 (fun w' => w'.cell? ⟨b, 7, none⟩ = some (.slice (some ⟨R, 0, none⟩) 1 cr) ∧ w'.cell? ⟨b, 8, none⟩ = some (.int .i64 3) ∧ w'.cell? ⟨R, 0, none⟩ = some (.int .i64 2) ∧ w'.cell? ⟨R, 1, none⟩ = some (.int .i64 7) ∧ w'.cell? ⟨R, 2, none⟩ = some (.string ⟨#[]⟩)) ((first | (refine ⟨?_, ?_, ?_, ?_, ?_⟩ <;> (rw [World.cell?_alloc_past _ _ _ (by simp; omega)]; go_simp)) | (refine ⟨?_, ?_, ?_, ?_, ?_⟩ <;> go_simp)))
             (first
              | (go_at_call 14; refine (int_any _ _).mono ?_; rintro e w' ⟨rfl, rfl⟩; unfold V.agg V.int)
              | (go_at_call 24; refine (HL.out _ (by repeat (first | exact Kp.refl _ _ | refine Kp.drew ?_ | refine Kp.drewN ?_ _ | refine Kp.alloc ?_ _))).mono ?_; rintro e w' ⟨rfl, rfl⟩)
              | (go_at_call 33; refine (HTP.out _ (by repeat (first | exact Kp.refl _ _ | refine Kp.drew ?_ | refine Kp.drewN ?_ _ | refine Kp.alloc ?_ _))).mono ?_; rintro e w' ⟨rfl, nn3, rfl⟩; unfold ptr))
            all_goals (go_wp2_with fail; go_meet)
            all_goals exact ⟨rfl, by repeat (first | exact HBZ.out | refine Below.drew ?_ | refine below_alloc ?_ _ | refine below_draw ?_ (Nat.le_refl _))⟩
          case rest =>
            obtain ⟨rfl, hbel⟩ := hcut
            have HBX := Lib.hid hbel
            clear hbel
            go_wp2
            go_ret
            exact ⟨rfl, HBX.out⟩
      · have HCAT : Hid (∀ W, Below wr.heap.size wr W → _) := Lib.hid (fun W hW => catch_D_none HP.out HO.out HX.out HM.out hSg hg1' HPK.out hD hth hW)
        have HTH := Lib.hid hth
        clear hth
        go_upto_region 21 with fail
        go_cut [11, 12] (fun s11 s12 wx => D21 w S g D (max 1 D) D false [] s11 s12 wx)
        case first =>
          go_region_held3 (fun w' => w'.cell? ⟨S + 1 + 1, 0, none⟩ = some (.slice (some ⟨S + 1, 0, none⟩) 2 2)) ((first | exact hcell | go_simp))
           (first
            | (go_at_call 14; refine (int_any _ _).mono ?_; rintro e w' ⟨rfl, rfl⟩; unfold V.agg V.int)
            | (go_at_call 32; refine (HCAT.out _ (by repeat (first | exact Below.refl _ _ | refine Below.drew ?_ | refine below_alloc ?_ _))).mono ?_; rintro e w3 ⟨s6, s7, rfl, hs12, hcell⟩))
          all_goals (go_wp2_with fail; go_meet)
          all_goals exact hs12
        case rest =>
          obtain ⟨A, c, lv6, rfl, rfl, hs6, hm6, hb6⟩ := hcut
          have HS6 := Lib.hid hs6
          have HB6 := Lib.hid hb6
          by_cases hD1 : D < 1
          · have hmx : max 1 D = 1 := by omega
            rw [hmx] at hm6
            have HM6 := Lib.hid hm6
            have q3 : ((D : Int) < 1) := by omega
            clear hs6 hm6 hb6 hmx
            by_cases ha0 : 0 ≤ a
            · have q1 : decide (0 ≤ a) = true := by simpa using ha0
              have q2 : decide (a < (D : Int)) = false := by simp; have := HTH.out; omega
              have hgne : g ≠ S + 1 + 1 + 1 := by omega
              have hdd : D - D = 0 := by omega
              go_wp2_with (first
                | (go_at_call 37; refine (leave_any HM6.out (by omega) D (by omega)).mono ?_; rintro e w7 ⟨rfl, hm7, hk7⟩; have HM7 := Lib.hid hm7; have HK7 := Lib.hid hk7; have HS7 : Hid (Stk w7 (S + 1 + 1 + 1) 47 [lv6] 0 (S + 1 + 1 + 1 + 1) lv6 []) := Lib.hid (HS6.out.kp hk7 (fun h => by omega) (fun x hx h => by have := (World.ownsRow.lt HS6.out.own x hx).1; omega)); clear hm7 hk7)
                | (go_at_call 38; refine (used_any HM7.out).mono ?_; rintro e w8 ⟨rfl, nn, rfl⟩; rw [hdd])
                | (go_at_call 24; refine (len_m (m := 0) (HS7.out.drewN _) rfl).mono ?_; rintro e w8 ⟨rfl, rfl⟩))
              go_ret
              exact ⟨rfl, below_draw (HB6.out.trans (kp_below2 HK7.out HB6.out.size (fun b hb => by omega))) (Nat.le_refl _)⟩
            · have q1 : decide (0 ≤ a) = false := by simpa using ha0
              have hgne : g ≠ S + 1 + 1 + 1 := by omega
              have hdd : D - D = 0 := by omega
              go_wp2_with (first
                | (go_at_call 37; refine (leave_any HM6.out (by omega) D (by omega)).mono ?_; rintro e w7 ⟨rfl, hm7, hk7⟩; have HM7 := Lib.hid hm7; have HK7 := Lib.hid hk7; have HS7 : Hid (Stk w7 (S + 1 + 1 + 1) 47 [lv6] 0 (S + 1 + 1 + 1 + 1) lv6 []) := Lib.hid (HS6.out.kp hk7 (fun h => by omega) (fun x hx h => by have := (World.ownsRow.lt HS6.out.own x hx).1; omega)); clear hm7 hk7)
                | (go_at_call 38; refine (used_any HM7.out).mono ?_; rintro e w8 ⟨rfl, nn, rfl⟩; rw [hdd])
                | (go_at_call 24; refine (len_m (m := 0) (HS7.out.drewN _) rfl).mono ?_; rintro e w8 ⟨rfl, rfl⟩))
              go_ret
              exact ⟨rfl, below_draw (HB6.out.trans (kp_below2 HK7.out HB6.out.size (fun b hb => by omega))) (Nat.le_refl _)⟩
          · have hmx : max 1 D = D := by omega
            rw [hmx] at hm6
            have HM6 := Lib.hid hm6
            have q3 : (1 : Int) ≤ (D : Int) := by omega
            clear hs6 hm6 hb6 hmx
            by_cases ha0 : 0 ≤ a
            · have q1 : decide (0 ≤ a) = true := by simpa using ha0
              have q2 : decide (a < (D : Int)) = false := by simp; have := HTH.out; omega
              have hgne : g ≠ S + 1 + 1 + 1 := by omega
              have hdd : D - D = 0 := by omega
              go_wp2_with (first
                | (go_at_call 37; refine (leave_any HM6.out (by omega) D (by omega)).mono ?_; rintro e w7 ⟨rfl, hm7, hk7⟩; have HM7 := Lib.hid hm7; have HK7 := Lib.hid hk7; have HS7 : Hid (Stk w7 (S + 1 + 1 + 1) 47 [lv6] 0 (S + 1 + 1 + 1 + 1) lv6 []) := Lib.hid (HS6.out.kp hk7 (fun h => by omega) (fun x hx h => by have := (World.ownsRow.lt HS6.out.own x hx).1; omega)); clear hm7 hk7)
                | (go_at_call 38; refine (used_any HM7.out).mono ?_; rintro e w8 ⟨rfl, nn, rfl⟩; rw [hdd])
                | (go_at_call 24; refine (len_m (m := 0) (HS7.out.drewN _) rfl).mono ?_; rintro e w8 ⟨rfl, rfl⟩))
              go_ret
              exact ⟨rfl, below_draw (HB6.out.trans (kp_below2 HK7.out HB6.out.size (fun b hb => by omega))) (Nat.le_refl _)⟩
            · have q1 : decide (0 ≤ a) = false := by simpa using ha0
              have hgne : g ≠ S + 1 + 1 + 1 := by omega
              have hdd : D - D = 0 := by omega
              go_wp2_with (first
                | (go_at_call 37; refine (leave_any HM6.out (by omega) D (by omega)).mono ?_; rintro e w7 ⟨rfl, hm7, hk7⟩; have HM7 := Lib.hid hm7; have HK7 := Lib.hid hk7; have HS7 : Hid (Stk w7 (S + 1 + 1 + 1) 47 [lv6] 0 (S + 1 + 1 + 1 + 1) lv6 []) := Lib.hid (HS6.out.kp hk7 (fun h => by omega) (fun x hx h => by have := (World.ownsRow.lt HS6.out.own x hx).1; omega)); clear hm7 hk7)
                | (go_at_call 38; refine (used_any HM7.out).mono ?_; rintro e w8 ⟨rfl, nn, rfl⟩; rw [hdd])
                | (go_at_call 24; refine (len_m (m := 0) (HS7.out.drewN _) rfl).mono ?_; rintro e w8 ⟨rfl, rfl⟩))
              go_ret
              exact ⟨rfl, below_draw (HB6.out.trans (kp_below2 HK7.out HB6.out.size (fun b hb => by omega))) (Nat.le_refl _)⟩
end Go.Proofs.Ytpcamgjfikipgaa
