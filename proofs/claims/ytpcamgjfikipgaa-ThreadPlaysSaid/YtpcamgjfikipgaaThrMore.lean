/- thread.Threads: Start, Suspend, End. Conditions: fewer than 1000 threads and functions. -/
import Derived.Test.YtpcamgjfikipgaaThrOps
namespace Go.Proofs.Ytpcamgjfikipgaa
open Go.RowKit
set_option linter.unusedVariables false
theorem upd_upd {α : Type} (f : Int → Option α) (k : Int) (x y : Option α) : upd (upd f k x) k y = upd f k y := by
  funext j; unfold upd; split <;> rfl
section
variable {w : World} {t mb base : Nat} {m : TE} {f : Int → Option TE} {sz : Nat} {rv : Value} {rs : List Nat} {k : Int}
theorem tstart_none (h : TS w t mb base m f sz rv rs) (hk : wfk k) (hf : f k = none) (b : Nat) : Calls Try.prog 52 #[.pointer (some ⟨t, 0, none⟩), .int .i64 k, .pointer (some ⟨b, 0, none⟩)] w fun e w' => e = .returned (.int .i64 42) ∧ w' = w := by
  have hb := h.box.cell (i := 0) rfl
  have hl := h.look hk
  rw [hf] at hl
  simp only at hl
  have hnn := fun W => run_eql_nil_nil (P := Try.prog) W (tp := 102) Try.underlying102
  clear h hk hf
  go_enter Try.func52, Try.ntmps52
  go_wp2
  go_ret
  exact ⟨rfl, rfl⟩
theorem tstart_no (h : TS w t mb base m f sz rv rs) (hk : wfk k) {x : TE} (hf : f k = some x) (hst : x.st ≠ 0) (b : Nat) : Calls Try.prog 52 #[.pointer (some ⟨t, 0, none⟩), .int .i64 k, .pointer (some ⟨b, 0, none⟩)] w fun e w' => e = .returned (.int .i64 42) ∧ w' = w := by
  have hb := h.box.cell (i := 0) rfl
  have hl := h.look hk
  rw [hf] at hl
  simp only at hl
  have hx2 : w.cell? ⟨x.e, 2, none⟩ = some (.int .i64 x.st) := (h.en k x hf).stk.blk.cell rfl
  have hnn := fun W => run_eql_ptr_nil (P := Try.prog) W (tp := 102) ⟨x.e, 0, none⟩ Try.underlying102
  obtain ⟨st, hs⟩ : ∃ st, x.st = st := ⟨_, rfl⟩
  rw [hs] at hst hx2
  have q1 : (st != 0) = true := by simpa using hst
  have q2 : decide (st = 0) = false := decide_eq_false hst
  clear h hk hf hs hst
  go_enter Try.func52, Try.ntmps52
  go_wp2
  go_ret
  exact ⟨rfl, rfl⟩
/-- The frame that is begun at the bottom. -/
theorem how_set {b R : Nat} {regs : List V} {how gen : Int} (h : FrG w b R regs how gen) (j : Int) : FrG (w.setCell ⟨b, 10, none⟩ (.int .i64 j)) b R regs j gen := by
  obtain ⟨hR, fn, cl, se, pc, dst, ex, hb⟩ := h
  refine ⟨hR.far (p := ⟨b, 10, none⟩) (fun e => blk_ne hR hb (by decide) e) _, fn, cl, se, pc, dst, ex, ?_⟩
  exact hb.set_ 10 (.int .i64 j)
theorem FrG.out {b R : Nat} {regs : List V} {how gen : Int} (h : FrG w b R regs how gen) : Rd w (some ⟨R, 0, none⟩) regs.length 3 (vcs regs) ∧ ∃ fn cl se pc dst ex, Blk w b 40 (fcs fn cl se (.slice (some ⟨R, 0, none⟩) regs.length regs.length) pc dst how ex (.pointer none) gen) := ⟨Rd.of_blk h.1 (by rw [vcs_length]), h.2⟩
/-- A frame's block is none of the threads'. -/
theorem TS.offb (h : TS w t mb base m f sz rv rs) {b : Nat} {τ : TypeId} {cs : List Value} (hb : Blk w b τ cs) (h1 : τ ≠ 101) (h2 : τ ≠ 35) (h3 : τ ≠ 124) (h4 : τ ≠ 102) {w' : World} (k : Kp (fun z => z = b) w w') : TS w' t mb base m f sz rv rs := by
  have hth : ∀ {j : Int} {x : TE}, ThE w base j x → ThE w' base j x := fun {j x} hx => hx.kp k (fun (e : x.e = b) => blk_ne hb hx.stk.blk h1 e.symm) (fun q hq (e : q = b) => own_ne_blk hx.stk.own hq hb (fun e => h2 e.symm) e)
  exact ⟨h.box.kp k (fun (e : t = b) => blk_ne hb h.box h3 e.symm), h.im.kp k (fun (e : mb = b) => im_ne hb h.im e.symm), hth h.main, h.mlv, fun j x hx => hth (h.en j x hx), own_kp h.run k (fun q hq (e : q = b) => own_ne_blk h.run hq hb (fun e => h4 e.symm) e), h.apartM, h.apart, h.lo⟩
/-- A function more on a thread's stack. -/
theorem tpush_any (h : TS w t mb base m f sz rv rs) {x : TE} (hf : f k = some x) (b : Nat) (hn : x.bs.length ≤ 1000) :
    Calls Try.prog 23 #[.pointer (some ⟨x.e, 1, none⟩), .pointer (some ⟨b, 0, none⟩)] w fun e w' => e = .returned (.tuple #[]) ∧ (∃ lv', TS w' t mb base m (upd f k (some ⟨x.e, lv', x.bs ++ [b], x.st, x.into⟩)) sz rv rs ∧ (∀ q, lv'.ownBlock = some q → x.lv.ownBlock = some q ∨ w.heap.size ≤ q)) ∧ Kp (thS t mb x rv) w w' := by
  have hx := h.en k x hf
  refine (push_any hx.stk b (by omega)).mono ?_
  rintro e w' ⟨rfl, lv', hs, hkp, hown⟩
  have hsub : ∀ z, (z = x.e ∨ x.lv.ownBlock = some z) → z = x.e ∨ x.lv.ownBlock = some z ∨ z = t ∨ rv.ownBlock = some z := fun z e => by rcases e with e | e <;> simp [e]
  have ht : ¬ (t = x.e ∨ x.lv.ownBlock = some t) := fun e => e.elim (fun e => blk_ne h.box hx.stk.blk (by decide) e) (fun e => own_ne_blk hx.stk.own e h.box (by decide) rfl)
  refine ⟨rfl, ⟨lv', h.turn hf (y := ⟨x.e, lv', x.bs ++ [b], x.st, x.into⟩) rfl hsub hkp ⟨hs, hx.lo⟩ hown (h.box.kp hkp ht) (own_kp h.run hkp (fun q hq e => e.elim (fun e => own_ne_blk h.run hq hx.stk.blk (by decide) e) (fun e => own_ne_own h.run hx.stk.own (by decide) hq e))), hown⟩, hkp.mono (fun z _ e => by rcases e with e | e <;> simp [thS, e])⟩
theorem thS_new {x : TE} {lv' : Value} {bs' : List Nat} {st' into' : Int} (hown : ∀ q, lv'.ownBlock = some q → x.lv.ownBlock = some q ∨ w.heap.size ≤ q) {z : Nat} (hz : z < w.heap.size) (h : thS t mb ⟨x.e, lv', bs', st', into'⟩ rv z) : thS t mb x rv z := by
  rcases h with e | e | e | e | e
  · exact .inl e
  · rcases hown z e with e | e
    · exact .inr (.inl e)
    · omega
  · exact .inr (.inr (.inl e))
  · exact .inr (.inr (.inr (.inl e)))
  · exact .inr (.inr (.inr (.inr e)))
set_option maxRecDepth 100000 in
theorem tstart_yes (h : TS w t mb base m f sz rv rs) (hk : wfk k) {x : TE} (hf : f k = some x) (hst : x.st = 0) {b R : Nat} {regs : List V} {how gen : Int} (hfr : FrG w b R regs how gen) (hn : x.bs.length ≤ 1000) (hr : rs.length ≤ 1000) :
    Calls Try.prog 52 #[.pointer (some ⟨t, 0, none⟩), .int .i64 k, .pointer (some ⟨b, 0, none⟩)] w fun e w' => e = .returned (.int .i64 0) ∧ (∃ lv' rv', TS w' t mb base m (upd f k (some ⟨x.e, lv', x.bs ++ [b], 2, x.into⟩)) sz rv' (rs ++ [x.e])) ∧ FrG w' b R regs 5 gen ∧ Kp (fun z => z = b ∨ thS t mb x rv z) w w' := by
  have hb := h.box.cell (i := 0) rfl
  have hl := h.look hk
  rw [hf] at hl
  simp only at hl
  have hx := h.en k x hf
  have hx2 : w.cell? ⟨x.e, 2, none⟩ = some (.int .i64 0) := by rw [← hst]; exact hx.stk.blk.cell rfl
  have hnn := fun W => run_eql_ptr_nil (P := Try.prog) W (tp := 102) ⟨x.e, 0, none⟩ Try.underlying102
  obtain ⟨hR, fn, cl, se, pc, dst, ex, hbb⟩ := hfr
  have e10 : w.cell? ⟨b, 10, none⟩ = some (.int .i64 how) := hbb.cell rfl
  have f10 := hbb.frozen 10
  have k1 : Kp (fun z => z = b) w (w.setCell ⟨b, 10, none⟩ (.int .i64 5)) := (Kp.refl (fun z => z = b) w).setCell (p := ⟨b, 10, none⟩) (.inr rfl) _
  have h1 := h.offb hbb (by decide) (by decide) (by decide) (by decide) k1
  have hf1 : FrG (w.setCell ⟨b, 10, none⟩ (.int .i64 5)) b R regs 5 gen := how_set ⟨hR, fn, cl, se, pc, dst, ex, hbb⟩ 5
  have H1 := Lib.hid (And.intro h1 (And.intro hf1 k1))
  have HF := Lib.hid hf
  have HST := Lib.hid hst
  clear h hk hf hx hR hbb k1 h1 hf1 hst
  go_enter Try.func52, Try.ntmps52
  go_wp2_with (first
    | (go_at_call 23; refine (tpush_any H1.out.1 HF.out b hn).mono ?_; rintro e w2 ⟨rfl, ⟨lv', hts, hown⟩, hk2⟩; have hfr2 := H1.out.1.frame (H1.out.1.en k x HF.out) hk2 H1.out.2.1; have H2 := Lib.hid (And.intro hts (And.intro hown (And.intro hk2 hfr2))); clear hts hown hk2 hfr2)
    | (go_at_call 70; refine (trun_any (x := ⟨x.e, lv', x.bs ++ [b], x.st, x.into⟩) H2.out.1 (upd_at _ _ _) hr).mono ?_; rintro e w3 ⟨rfl, ⟨rv', hts3⟩, hk3⟩; have H3 := Lib.hid (And.intro hts3 hk3); clear hts3 hk3))
  go_ret
  obtain ⟨h2, hown, hk2, hfr2⟩ := H2.out
  obtain ⟨h3, hk3⟩ := H3.out
  rw [upd_upd] at h3
  have hx2' := h2.en k _ (upd_at _ _ _)
  refine ⟨rfl, ⟨lv', rv', h3⟩, h2.frame hx2' hk3 hfr2, ?_⟩
  have hsz : (w.setCell ⟨b, 10, none⟩ (.int .i64 5)).heap.size = w.heap.size := by simp
  have k12 : Kp (fun z => z = b ∨ thS t mb x rv z) w w2 := (H1.out.2.2.mono (T := fun z => z = b ∨ thS t mb x rv z) (fun z _ e => .inl e)).trans hk2 (fun z _ e => .inr e)
  exact k12.trans hk3 (fun z hz e => .inr (thS_new (w := w.setCell ⟨b, 10, none⟩ (.int .i64 5)) hown (by rw [hsz]; exact hz) e))
end
end Go.Proofs.Ytpcamgjfikipgaa
