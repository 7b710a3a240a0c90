/- WholeWaits' state: a generator and a thread, their frames; and what each step makes of it. No condition. -/
import Derived.Test.YtpcamgjfikipgaaThrWake
import Derived.Test.YtpcamgjfikipgaaStackVals
namespace Go.Proofs.Ytpcamgjfikipgaa
open Go.RowKit
set_option linter.unusedVariables false
section
variable {w : World} {t mb base : Nat} {m : TE} {f : Int → Option TE} {sz : Nat} {rv : Value} {rs : List Nat} {k : Int}
theorem tval_no (h : TS w t mb base m f sz rv rs) (hk : wfk k) (hno : ∀ x, f k = some x → x.st ≠ 1) : Calls Try.prog 55 #[.pointer (some ⟨t, 0, none⟩), .int .i64 k] w fun e w' => e = .returned (.slice none 0 0) ∧ w' = w := by
  have hb := h.box.cell (i := 0) rfl
  have hl := h.look hk
  rcases hf : f k with _ | x
  · rw [hf] at hl
    simp only at hl
    have hnn := fun W => run_neq_nil_nil (P := Try.prog) W (tp := 102) Try.underlying102
    clear h hk hf hno
    go_enter Try.func55, Try.ntmps55
    go_wp2
    go_ret
    exact ⟨rfl, rfl⟩
  · rw [hf] at hl
    simp only at hl
    have hst := hno x hf
    have hx2 : w.cell? ⟨x.e, 2, none⟩ = some (.int .i64 x.st) := (h.en k x hf).stk.blk.cell rfl
    have hnn := fun W => run_neq_ptr_none (P := Try.prog) W (tp := 102) ⟨x.e, 0, none⟩ Try.underlying102
    obtain ⟨st, hs⟩ : ∃ st, x.st = st := ⟨_, rfl⟩
    rw [hs] at hst hx2
    have q1 : (st == 1) = false := by simpa using hst
    have q2 : decide (st = 1) = false := decide_eq_false hst
    clear h hk hf hs hst hno
    go_enter Try.func55, Try.ntmps55
    go_wp2
    go_ret
    exact ⟨rfl, rfl⟩
theorem tval_yes (h : TS w t mb base m f sz rv rs) (hk : wfk k) {x : TE} (hf : f k = some x) (hst : x.st = 1) (ls : List (List V)) (hll : ls.length = x.bs.length)
    (hF : ∀ (i b : Nat) (l : List V), x.bs[i]? = some b → ls[i]? = some l → ∀ w' : World, Below w.heap.size w w' → Calls Try.prog 26 #[ptr b] w' (Told w' l)) {n : Nat} (hn : ls.flatten.length = n) (hn2 : n ≤ 100000) (hbn : x.bs.length ≤ 100000) :
    Calls Try.prog 55 #[.pointer (some ⟨t, 0, none⟩), .int .i64 k] w fun e w' => ∃ A c, e = .returned (.slice A n c) ∧ Below w.heap.size w w' := by
  have hb := h.box.cell (i := 0) rfl
  have hl := h.look hk
  rw [hf] at hl
  simp only at hl
  have hx := h.en k x hf
  have hx2 : w.cell? ⟨x.e, 2, none⟩ = some (.int .i64 1) := by rw [← hst]; exact hx.stk.blk.cell rfl
  have hnn := fun W => run_neq_ptr_none (P := Try.prog) W (tp := 102) ⟨x.e, 0, none⟩ Try.underlying102
  have hv : Calls Try.prog 27 #[.pointer (some ⟨x.e, 1, none⟩)] w fun e w' => ∃ A c, e = .returned (.slice A n c) ∧ Below w.heap.size w w' := by
    refine (stack_values hx.stk ls hll hF (by omega) hbn).mono ?_
    rintro e w' ⟨v, rfl, ho, hbe⟩
    obtain ⟨A, c, rfl, _, _⟩ := ho.rd
    rw [hn]
    exact ⟨A, c, rfl, hbe⟩
  have HV := Lib.hid hv
  clear h hk hf hx hv hF hll hst hn hn2 hbn
  go_enter Try.func55, Try.ntmps55
  go_wp2_with (go_at_call 27; refine HV.out.mono ?_; rintro e w' ⟨A, c, rfl, hbe⟩)
  go_ret
  exact ⟨A, c, rfl, hbe⟩
/-- What a frame tells. -/
theorem fr_told {b R : Nat} {regs : List V} {how gen : Int} (h : FrG w b R regs how gen) (hr : regs.length ≤ 1000) : ∃ l : List V, l.length = 3 + regs.length + (if 0 ≤ gen then 1 else 0) ∧ ∀ w', Below w.heap.size w w' → Calls Try.prog 26 #[ptr b] w' (Told w' l) := by
  obtain ⟨hR, fn, cl, se, pc, dst, ex, hb⟩ := h
  by_cases hg : 0 ≤ gen
  · refine ⟨([cl, se, ex] ++ regs) ++ [V.ref gen], by simp [hg]; omega, fun w' hbe => ?_⟩
    have hb' : Blk w' b 40 _ := hb.kp (S := fun _ => False) (Kp.of_below hbe) id
    have hR' : Blk w' R 25 _ := hR.kp (S := fun _ => False) (Kp.of_below hbe) id
    exact values_gen hb' (Rd.of_blk hR' (by rw [vcs_length])) hr hg
  · refine ⟨[cl, se, ex] ++ regs, by simp [hg]; omega, fun w' hbe => ?_⟩
    have hb' : Blk w' b 40 _ := hb.kp (S := fun _ => False) (Kp.of_below hbe) id
    have hR' : Blk w' R 25 _ := hR.kp (S := fun _ => False) (Kp.of_below hbe) id
    exact values_plain hb' (Rd.of_blk hR' (by rw [vcs_length])) hr (by omega)
theorem tpop_any (h : TS w t mb base m f sz rv rs) {x : TE} (hf : f k = some x) {bs0 : List Nat} {b : Nat} (hbs : x.bs = bs0 ++ [b]) (hn : bs0.length < 1000) :
    Calls Try.prog 20 #[.pointer (some ⟨x.e, 1, none⟩)] w fun e w' => e = .returned (.pointer (some ⟨b, 0, none⟩)) ∧ (∃ lv', TS w' t mb base m (upd f k (some ⟨x.e, lv', bs0, x.st, x.into⟩)) sz rv rs) ∧ Kp (thS t mb x rv) w w' := by
  have hx := h.en k x hf
  have hstk := hx.stk
  rw [hbs] at hstk
  refine (pop_some hstk (by omega)).mono ?_
  rintro e w' ⟨rfl, lv', hs, hkp, hown⟩
  have hsub : ∀ z, (z = x.e ∨ x.lv.ownBlock = some z) → z = x.e ∨ x.lv.ownBlock = some z ∨ z = t ∨ rv.ownBlock = some z := fun z e => by rcases e with e | e <;> simp [e]
  have ht : ¬ (t = x.e ∨ x.lv.ownBlock = some t) := fun e => e.elim (fun e => blk_ne h.box hx.stk.blk (by decide) e) (fun e => own_ne_blk hx.stk.own e h.box (by decide) rfl)
  exact ⟨rfl, ⟨lv', h.turn hf (y := ⟨x.e, lv', bs0, x.st, x.into⟩) rfl hsub hkp ⟨hs, hx.lo⟩ (fun q hq => .inl (by rw [← hown]; exact hq)) (h.box.kp hkp ht) (own_kp h.run hkp (fun q hq e => e.elim (fun e => own_ne_blk h.run hq hx.stk.blk (by decide) e) (fun e => own_ne_own h.run hx.stk.own (by decide) hq e)))⟩, hkp.mono (fun z _ e => by rcases e with e | e <;> simp [thS, e])⟩
end
/-- The state. -/
structure WW (w0 w : World) (g mbg t mbt bt me : Nat) (cell other : Int) (b1 R1 b2 R2 : Nat) (rg1 : List V) (e0 : Nat) (fr : Option Nat) (gst : Int) (x : TE) (rv : Value) (rs : List Nat) : Prop where
  gs : G1 w g mbg w0.heap.size cell e0 fr gst 1
  ts : ∃ f, TS w t mbt bt (mainE me) f 1 rv rs ∧ f other = some x
  f1 : FrG w b1 R1 rg1 6 cell
  f2 : FrG w b2 R2 (List.replicate 2 V.null) 5 (-1)
  ne : mbg ≠ mbt
  bne : b1 ≠ b2
  lo : w0.heap.size ≤ bt ∧ w0.heap.size ≤ R1
  bel : Below w0.heap.size w0 w
section
variable {w0 w : World} {g mbg t mbt bt me : Nat} {cell other : Int} {b1 R1 b2 R2 : Nat} {rg1 : List V} {e0 : Nat} {fr : Option Nat} {gst : Int} {x : TE} {rv : Value} {rs : List Nat}
theorem WW.below (h : WW w0 w g mbg t mbt bt me cell other b1 R1 b2 R2 rg1 e0 fr gst x rv rs) {w' : World} (k : Below w.heap.size w w') : WW w0 w' g mbg t mbt bt me cell other b1 R1 b2 R2 rg1 e0 fr gst x rv rs := by
  obtain ⟨f, ht, hf⟩ := h.ts
  exact ⟨h.gs.below k, ⟨f, ht.below k, hf⟩, h.f1.below k, h.f2.below k, h.ne, h.bne, h.lo, h.bel.trans (k.mono h.bel.size)⟩
theorem WW.drew (h : WW w0 w g mbg t mbt bt me cell other b1 R1 b2 R2 rg1 e0 fr gst x rv rs) (n : Nat) : WW w0 (w.drewN n) g mbg t mbt bt me cell other b1 R1 b2 R2 rg1 e0 fr gst x rv rs := h.below (((Kp.refl (fun _ => False) w).drewN n).below (fun _ _ h => h))
/-- A step of the thread. -/
theorem WW.tstep (h : WW w0 w g mbg t mbt bt me cell other b1 R1 b2 R2 rg1 e0 fr gst x rv rs) {w' : World} {S : Nat → Prop} (kp : Kp S w w') (hS : ∀ z, S z → z = R1 ∨ thS t mbt x rv z) {x' : TE} {rv' : Value} {rs' : List Nat} {rg1' : List V}
    (ts' : ∃ f, TS w' t mbt bt (mainE me) f 1 rv' rs' ∧ f other = some x') (f1' : FrG w' b1 R1 rg1' 6 cell) (hR : R1 ≠ R2) : WW w0 w' g mbg t mbt bt me cell other b1 R1 b2 R2 rg1' e0 fr gst x' rv' rs' := by
  obtain ⟨f, ht, hf⟩ := h.ts
  have hx := ht.en other x hf
  obtain ⟨fg, hg, hfg⟩ := h.gs
  have hR1 := h.f1.1
  have far : ∀ {b : Nat} {τ : TypeId} {cs : List Value}, Blk w b τ cs → τ ≠ 101 → τ ≠ 35 → τ ≠ 124 → τ ≠ 102 → b ≠ R1 → ¬ S b := fun hb q1 q2 q3 q4 hne e => by
    rcases hS _ e with e | e
    · exact hne e
    · exact ht.far hx hb q1 q2 q3 q4 e
  obtain ⟨hR2, fn, cl, se, pc, dst, ex, hb2⟩ := h.f2
  refine ⟨⟨fg, hg.kpS kp (far hg.box (by decide) (by decide) (by decide) (by decide) (blk_ne hg.box hR1 (by decide))) (fun e => ?_) (fun j y hy => far (hg.en j y hy) (by decide) (by decide) (by decide) (by decide) (blk_ne (hg.en j y hy) hR1 (by decide))), hfg⟩, ts', f1',
    FrG.kp ⟨hR2, fn, cl, se, pc, dst, ex, hb2⟩ kp (far hb2 (by decide) (by decide) (by decide) (by decide) (blk_ne hb2 hR1 (by decide))) (far hR2 (by decide) (by decide) (by decide) (by decide) (fun e => hR e.symm)), h.ne, h.bne, h.lo, ?_⟩
  · rcases hS _ e with e | e
    · exact im_ne hR1 hg.im e.symm
    · exact ht.imfar hx hg.im h.ne e
  · refine kpb h.bel (kp.mono (fun z _ e => ?_))
    rcases hS _ e with rfl | e
    · exact h.lo.2
    · exact Nat.le_trans h.lo.1 (ht.low hx e)
/-- A step of the generator. -/
theorem WW.gstep (h : WW w0 w g mbg t mbt bt me cell other b1 R1 b2 R2 rg1 e0 fr gst x rv rs) {w' : World} (kp : Kp (fun z => z = e0) w w') {fr' : Option Nat} {gst' : Int} (hg' : G1 w' g mbg w0.heap.size cell e0 fr' gst' 1) : WW w0 w' g mbg t mbt bt me cell other b1 R1 b2 R2 rg1 e0 fr' gst' x rv rs := by
  obtain ⟨f, ht, hf⟩ := h.ts
  have heb := h.gs.eb
  have h1 := h.gs.fr h.f1 kp
  have h2 := h.gs.fr h.f2 kp
  obtain ⟨fg, hg, hfg⟩ := h.gs
  exact ⟨hg', ⟨f, ht.offb (hg.en cell _ hfg) (by decide) (by decide) (by decide) (by decide) kp, hf⟩, h1, h2, h.ne, h.bne, h.lo, kpe h.bel heb kp⟩
end
end Go.Proofs.Ytpcamgjfikipgaa
