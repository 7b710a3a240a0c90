/- thread.Threads: Wake. Conditions: fewer than 1000 threads and functions. -/
import Derived.Test.YtpcamgjfikipgaaThrOff
import Derived.StillTailTactics
namespace Go.Proofs.Ytpcamgjfikipgaa
open Go.RowKit
set_option linter.unusedVariables false
section
variable {w : World} {t mb base : Nat} {m : TE} {f : Int → Option TE} {sz : Nat} {rv : Value} {rs : List Nat} {k : Int}
theorem twake_none (h : TS w t mb base m f sz rv rs) (hk : wfk k) (hf : f k = none) (v : V) : Calls Try.prog 56 #[.pointer (some ⟨t, 0, none⟩), .int .i64 k, v.agg] w fun e w' => e = .returned (.int .i64 42) ∧ Below w.heap.size w w' := by
  have hb := h.box.cell (i := 0) rfl
  have hl := (h.below (below_alloc (Below.refl _ _) (.cells #[.int .i64 v.k, .int .i64 v.n, .string v.s] 25))).look hk
  rw [hf] at hl
  simp only at hl
  have hnn := fun W => run_eql_nil_nil (P := Try.prog) W (tp := 102) Try.underlying102
  have htl := h.box.lt
  clear h hk hf
  unfold V.agg
  go_enter Try.func56, Try.ntmps56
  go_wp2
  go_ret
  exact ⟨rfl, below_alloc (Below.refl _ _) _⟩
theorem twake_no (h : TS w t mb base m f sz rv rs) (hk : wfk k) {x : TE} (hf : f k = some x) (hst : x.st ≠ 1) (v : V) : Calls Try.prog 56 #[.pointer (some ⟨t, 0, none⟩), .int .i64 k, v.agg] w fun e w' => e = .returned (.int .i64 42) ∧ Below w.heap.size w w' := by
  have hb := h.box.cell (i := 0) rfl
  have hl := (h.below (below_alloc (Below.refl _ _) (.cells #[.int .i64 v.k, .int .i64 v.n, .string v.s] 25))).look hk
  rw [hf] at hl
  simp only at hl
  have hx2 : w.cell? ⟨x.e, 2, none⟩ = some (.int .i64 x.st) := (h.en k x hf).stk.blk.cell rfl
  have hnn := fun W => run_eql_ptr_nil (P := Try.prog) W (tp := 102) ⟨x.e, 0, none⟩ Try.underlying102
  have htl := h.box.lt
  have hel := (h.en k x hf).stk.blk.lt
  obtain ⟨st, hs⟩ : ∃ st, x.st = st := ⟨_, rfl⟩
  rw [hs] at hst hx2
  have q1 : (st != 1) = true := by simpa using hst
  have q2 : decide (st = 1) = false := decide_eq_false hst
  clear h hk hf hs hst
  unfold V.agg
  go_enter Try.func56, Try.ntmps56
  go_wp2
  go_ret
  exact ⟨rfl, below_alloc (Below.refl _ _) _⟩
theorem kp_cell {w W : World} {R o : Nat} {u : Value} (k : Kp (fun z => z = R) w W) : Kp (fun z => z = R) w (W.setCell ⟨R, o, none⟩ u) := k.setCell (p := ⟨R, o, none⟩) (.inr rfl) u
theorem wake_end (h : TS w t mb base m f sz rv rs) {x : TE} (hf : f k = some x) {b R i : Nat} {regs : List V} {v : V} {fn : Int} {cl se ex : V} {pc dst how gen : Int} (hR : Blk w R 25 (vcs regs)) (hbb : Blk w b 40 (fcs fn cl se (.slice (some ⟨R, 0, none⟩) regs.length regs.length) pc dst how ex (.pointer none) gen))
    {W w5 : World} {f' : Int → Option TE} {rs' : List Nat} (h5 : ∃ rv', TS w5 t mb base m f' sz rv' rs') (k5 : Kp (thS t mb x rv) W w5) (kW : Kp (fun z => z = R) w W)
    (hRW : Blk W R 25 ((((vcs regs).set (i * 3) (.int .i64 v.k)).set (i * 3 + 1) (.int .i64 v.n)).set (i * 3 + 2) (.string v.s))) (hil : i < regs.length) {P : Prop} (hP : P) :
    P ∧ (∃ rv', TS w5 t mb base m f' sz rv' rs') ∧ FrG w5 b R (regs.set i v) how gen ∧ Kp (fun z => z = R ∨ thS t mb x rv z) w w5 := by
  rw [(vcs_set regs i v).resolve_right (by omega)] at hRW
  have hTW := h.offb hR (by decide) (by decide) (by decide) (by decide) kW
  have hxW := hTW.en k x hf
  have hfr : FrG W b R (regs.set i v) how gen := by
    refine ⟨hRW, fn, cl, se, pc, dst, ex, ?_⟩
    rw [List.length_set]
    exact hbb.kp kW (fun (e : b = R) => blk_ne hbb hR (by decide) e)
  exact ⟨hP, h5, hTW.frame hxW k5 hfr, (kW.mono (T := fun z => z = R ∨ thS t mb x rv z) (fun z _ e => .inl e)).trans k5 (fun z _ e => .inr e)⟩
set_option maxRecDepth 100000 in
set_option maxHeartbeats 4000000 in
theorem twake_yes (h : TS w t mb base m f sz rv rs) (hk : wfk k) {x : TE} (hf : f k = some x) (hst : x.st = 1) {bs0 : List Nat} {b R i : Nat} (hbs : x.bs = bs0 ++ [b]) (hi : x.into = i) {regs : List V} {how gen : Int} (hfr : FrG w b R regs how gen) (hil : i < regs.length) (hrl : regs.length ≤ 1000) (hn : x.bs.length ≤ 1000) (hr : rs.length ≤ 1000) (v : V) :
    Calls Try.prog 56 #[.pointer (some ⟨t, 0, none⟩), .int .i64 k, v.agg] w fun e w' => e = .returned (.int .i64 0) ∧ (∃ rv', TS w' t mb base m (upd f k (some (runE x))) sz rv' (rs ++ [x.e])) ∧ FrG w' b R (regs.set i v) how gen ∧ Kp (fun z => z = R ∨ thS t mb x rv z) w w' := by
  have hb := h.box.cell (i := 0) rfl
  have hal := below_alloc (Below.refl w.heap.size w) (.cells #[.int .i64 v.k, .int .i64 v.n, .string v.s] 25)
  have hl := (h.below hal).look hk
  rw [hf] at hl
  simp only at hl
  have hx := h.en k x hf
  have hx2 : w.cell? ⟨x.e, 2, none⟩ = some (.int .i64 1) := by rw [← hst]; exact hx.stk.blk.cell rfl
  have hx3 : w.cell? ⟨x.e, 3, none⟩ = some (.int .i64 (i : Int)) := by rw [← hi]; exact hx.stk.blk.cell rfl
  have hnn := fun W => run_eql_ptr_nil (P := Try.prog) W (tp := 102) ⟨x.e, 0, none⟩ Try.underlying102
  have htl := h.box.lt
  have hel := hx.stk.blk.lt
  have htop : ∀ W, Kp (fun _ => False) w W → Calls Try.prog 33 #[.pointer (some ⟨x.e, 1, none⟩)] W fun e w' => e = .returned (.pointer (some ⟨b, 0, none⟩)) ∧ ∃ n, w' = W.drewN n := fun W kW => by
    have hs := hx.stk.kp kW id (fun _ _ => id)
    exact top_some hs (by rw [hbs]; simp) (by omega)
  obtain ⟨hR, fn, cl, se, pc, dst, ex, hbb⟩ := hfr
  have e7 : w.cell? ⟨b, 7, none⟩ = some (.slice (some ⟨R, 0, none⟩) regs.length regs.length) := hbb.cell rfl
  obtain ⟨n, hN⟩ : ∃ n, regs.length = n := ⟨_, rfl⟩
  have HN := Lib.hid hN
  rw [hN] at e7 hil hrl
  have hbl := hbb.lt
  have hRl := hR.lt
  have z1 : (0 : Int) ≤ (i : Int) := by omega
  have z2 : (i : Int) < (n : Int) := by omega
  have r0 := hR.frozen (i * 3)
  have r1 := hR.frozen (i * 3 + 1)
  have r2 := hR.frozen (i * 3 + 2)
  obtain ⟨y, hy⟩ : ∃ y, regs[i]? = some y := ⟨_, List.getElem?_eq_getElem (by omega)⟩
  obtain ⟨v0, v1, v2⟩ := vcs_at hy
  have x0 : w.cell? ⟨R, i * 3, none⟩ = some _ := hR.cell v0
  have x1 : w.cell? ⟨R, i * 3 + 1, none⟩ = some _ := hR.cell v1
  have x2 : w.cell? ⟨R, i * 3 + 2, none⟩ = some _ := hR.cell v2
  have HTOP := Lib.hid htop
  have HTS := Lib.hid (fun (W : World) (kW : Kp (fun z => z = R) w W) => h.offb hR (by decide) (by decide) (by decide) (by decide) kW)
  have H := Lib.hid (And.intro h (And.intro hf (And.intro hR hbb)))
  clear h hk hf hx hR hbb hN hal hbs hi hst htop v0 v1 v2
  unfold V.agg
  go_enter Try.func56, Try.ntmps56
  go_wp2
  go_region_with (go_at_call 33; refine (HTOP.out _ (by repeat (first | exact Kp.refl _ _ | refine Kp.drew ?_ | refine Kp.drewN ?_ _ | refine Kp.alloc ?_ _))).mono ?_; rintro e w2 ⟨rfl, nn, rfl⟩)
  all_goals
    go_wp2_with (go_at_call 70; refine (trun_any (x := x) (HTS.out _ (by repeat (first | exact Kp.refl _ _ | refine Kp.drew ?_ | refine Kp.drewN ?_ _ | refine Kp.alloc ?_ _ | refine kp_cell ?_))) H.out.2.1 hr).mono ?_; rintro e w5 ⟨rfl, hts5, hk5⟩; have H5 := Lib.hid (And.intro hts5 hk5); clear hts5 hk5)
    go_ret
    exact wake_end H.out.1 H.out.2.1 H.out.2.2.1 H.out.2.2.2 H5.out.1 H5.out.2 (by repeat (first | exact Kp.refl _ _ | refine Kp.drew ?_ | refine Kp.drewN ?_ _ | refine Kp.alloc ?_ _ | refine kp_cell ?_)) (((H.out.2.2.1.alloc _).drewN _).set_ _ _ |>.set_ _ _ |>.set_ _ _) (by have := HN.out; omega) rfl
end
end Go.Proofs.Ytpcamgjfikipgaa
