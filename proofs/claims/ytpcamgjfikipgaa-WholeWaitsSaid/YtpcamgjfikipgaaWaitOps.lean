/- WholeWaits: what each call makes of its state. No condition. -/
import Derived.Test.YtpcamgjfikipgaaWaits
namespace Go.Proofs.Ytpcamgjfikipgaa
open Go.RowKit
set_option linter.unusedVariables false
abbrev nulls : List V := List.replicate 2 V.null
/-- Before the thread is started. -/
structure W1 (w0 w : World) (g mbg t mbt bt me : Nat) (cell : Int) (b1 R1 b2 R2 e0 : Nat) (f : Int → Option TE) (n : Nat) (rv : Value) : Prop where
  gs : G1 w g mbg w0.heap.size cell e0 (some b1) 0 1
  ts : TS w t mbt bt (mainE me) f n rv [me]
  f1 : FrG w b1 R1 nulls 6 cell
  f2 : FrG w b2 R2 nulls 0 (-1)
  ne : mbg ≠ mbt
  bne : b1 ≠ b2
  rne : R1 ≠ R2
  lo : w0.heap.size ≤ bt ∧ w0.heap.size ≤ R1 ∧ w0.heap.size ≤ b2
  bel : Below w0.heap.size w0 w
section
variable {w0 w : World} {g mbg t mbt bt me : Nat} {cell other : Int} {b1 R1 b2 R2 : Nat} {e0 : Nat} {rv : Value}
theorem w_add {fg : Int → Option GE} (hg : GS w g mbg w0.heap.size fg 0) (hfg : fg cell = none) (hc : wfk cell) {f : Int → Option TE} {n : Nat} (ht : TS w t mbt bt (mainE me) f n rv [me]) (h1 : FrG w b1 R1 nulls 0 (-1)) (h2 : FrG w b2 R2 nulls 0 (-1)) (ne : mbg ≠ mbt) (bne : b1 ≠ b2) (rne : R1 ≠ R2)
    (lo : w0.heap.size ≤ bt ∧ w0.heap.size ≤ R1 ∧ w0.heap.size ≤ b2 ∧ w0.heap.size ≤ b1) (bel : Below w0.heap.size w0 w) :
    Calls Try.prog 42 #[.pointer (some ⟨g, 0, none⟩), .int .i64 cell, .pointer (some ⟨b1, 0, none⟩)] w fun e w' => e = .returned (.tuple #[]) ∧ ∃ e0, W1 w0 w' g mbg t mbt bt me cell b1 R1 b2 R2 e0 f n rv := by
  refine (add_any hg hc hfg (by omega) h1).mono ?_
  rintro e w' ⟨rfl, hg', h1', k⟩
  have hgl := hg.lo.2.1
  have him := hg.im
  obtain ⟨hR1, fn, cl, se, pc, dst, ex, hb1⟩ := h1
  obtain ⟨hR2, fn', cl', se', pc', dst', ex', hb2⟩ := h2
  have off : ∀ {b : Nat} {τ : TypeId} {cs : List Value}, Blk w b τ cs → b ≠ b1 → ¬ (b = b1 ∨ b = mbg) := fun hb hne e => e.elim hne (fun e => im_ne hb him e)
  have hth : ∀ {j : Int} {x : TE}, ThE w bt j x → ThE w' bt j x := fun {j x} hx => hx.kp k (off hx.stk.blk (blk_ne hx.stk.blk hb1 (by decide))) (fun q hq e => e.elim (fun e => own_ne_blk hx.stk.own hq hb1 (by decide) e) (fun e => own_ne_im hx.stk.own hq him e))
  refine ⟨rfl, _, ⟨⟨_, hg', upd_at _ _ _⟩, ⟨ht.box.kp k (off ht.box (blk_ne ht.box hb1 (by decide))), ht.im.kp k (fun e => e.elim (fun e => im_ne hb1 ht.im e.symm) (fun e => ne e.symm)), hth ht.main, ht.mlv, fun j x hx => hth (ht.en j x hx),
    own_kp ht.run k (fun q hq e => e.elim (fun e => own_ne_blk ht.run hq hb1 (by decide) e) (fun e => own_ne_im ht.run hq him e)), ht.apartM, ht.apart, ht.lo⟩, h1', ⟨hR2.kp k (off hR2 (blk_ne hR2 hb1 (by decide))), fn', cl', se', pc', dst', ex', hb2.kp k (off hb2 (fun e => bne e.symm))⟩, ne, bne, rne, ⟨lo.1, lo.2.1, lo.2.2.1⟩, kpb bel (k.mono (fun z _ e => e.elim (fun e => by subst e; exact lo.2.2.2) (fun e => by subst e; exact hgl)))⟩⟩
theorem w_tadd (h : W1 w0 w g mbg t mbt bt me cell b1 R1 b2 R2 e0 (fun _ => none) 0 rv) (hk : wfk other) :
    Calls Try.prog 51 #[.pointer (some ⟨t, 0, none⟩), .int .i64 other] w fun e w' => e = .returned (.tuple #[]) ∧ ∃ e1, W1 w0 w' g mbg t mbt bt me cell b1 R1 b2 R2 e0 (upd (fun _ => none) other (some (idleE e1))) 1 rv := by
  refine (tadd_any h.ts hk rfl (by omega)).mono ?_
  rintro e w' ⟨rfl, ht', k⟩
  obtain ⟨fg, hg, hfg⟩ := h.gs
  have n1 := h.f1.ne h.ts.im
  have n2 := h.f2.ne h.ts.im
  exact ⟨rfl, _, ⟨⟨fg, hg.kmap h.ts.im (fun e => h.ne e.symm) k, hfg⟩, ht', h.f1.kp k (fun e => n1.1 e) (fun e => n1.2 e), h.f2.kp k (fun e => n2.1 e) (fun e => n2.2 e), h.ne, h.bne, h.rne, h.lo, kpb h.bel (k.mono (fun z _ (e : z = mbt) => by subst e; exact Nat.le_trans h.lo.1 h.ts.lo.2))⟩⟩
theorem w_start {e1 : Nat} (h : W1 w0 w g mbg t mbt bt me cell b1 R1 b2 R2 e0 (upd (fun _ => none) other (some (idleE e1))) 1 rv) (hk : wfk other) :
    Calls Try.prog 52 #[.pointer (some ⟨t, 0, none⟩), .int .i64 other, .pointer (some ⟨b2, 0, none⟩)] w fun e w' => e = .returned (.int .i64 0) ∧ ∃ lv' rv', WW w0 w' g mbg t mbt bt me cell other b1 R1 b2 R2 nulls e0 (some b1) 0 ⟨e1, lv', [b2], 2, 0⟩ rv' ([me] ++ [e1]) := by
  have hf := upd_at (fun _ => none) other (some (idleE e1))
  have hx := h.ts.en other _ hf
  refine (tstart_yes h.ts hk hf rfl h.f2 (by simp [idleE]) (by simp)).mono ?_
  rintro e w' ⟨rfl, ⟨lv', rv', ht'⟩, h2', k⟩
  obtain ⟨fg, hg, hfg⟩ := h.gs
  obtain ⟨hR2, fn', cl', se', pc', dst', ex', hb2⟩ := h.f2
  have off : ∀ {b : Nat} {τ : TypeId} {cs : List Value}, Blk w b τ cs → τ ≠ 101 → τ ≠ 35 → τ ≠ 124 → τ ≠ 102 → b ≠ b2 → ¬ (b = b2 ∨ thS t mbt (idleE e1) rv b) := fun hb q1 q2 q3 q4 hne e => e.elim hne (h.ts.far hx hb q1 q2 q3 q4)
  obtain ⟨hR1, fn, cl, se, pc, dst, ex, hb1⟩ := h.f1
  refine ⟨rfl, lv', rv', ⟨⟨fg, hg.kpS k (off hg.box (by decide) (by decide) (by decide) (by decide) (blk_ne hg.box hb2 (by decide))) (fun e => e.elim (fun e => im_ne hb2 hg.im e.symm) (h.ts.imfar hx hg.im h.ne)) (fun j y hy => off (hg.en j y hy) (by decide) (by decide) (by decide) (by decide) (blk_ne (hg.en j y hy) hb2 (by decide))), hfg⟩,
    ⟨_, ht', upd_at _ _ _⟩, ⟨hR1.kp k (off hR1 (by decide) (by decide) (by decide) (by decide) (blk_ne hR1 hb2 (by decide))), fn, cl, se, pc, dst, ex, hb1.kp k (off hb1 (by decide) (by decide) (by decide) (by decide) h.bne)⟩, h2', h.ne, h.bne, ⟨h.lo.1, h.lo.2.1⟩, kpb h.bel (k.mono (fun z _ e => e.elim (fun e => by subst e; exact h.lo.2.2) (fun e => Nat.le_trans h.lo.1 (h.ts.low hx e))))⟩⟩
end
section
variable {w0 w : World} {g mbg t mbt bt me : Nat} {cell other : Int} {b1 R1 b2 R2 : Nat} {rg1 : List V} {e0 : Nat} {fr : Option Nat} {gst : Int} {x : TE} {rv : Value} {rs r0 : List Nat}
theorem ww_resume0 (h : WW w0 w g mbg t mbt bt me cell other b1 R1 b2 R2 rg1 e0 (some b1) 0 x rv rs) (hc : wfk cell) : Calls Try.prog 43 #[.pointer (some ⟨g, 0, none⟩), .int .i64 cell] w fun z w' => z = .returned (.tuple #[.pointer (some ⟨b1, 0, none⟩), .int .i64 0]) ∧ WW w0 w' g mbg t mbt bt me cell other b1 R1 b2 R2 rg1 e0 none 1 x rv rs := by
  obtain ⟨f, hg, hf⟩ := h.gs
  refine (resume_any hg hc (fun x hx => by rw [hf] at hx; injection hx with hx; subst hx; exact .inl rfl)).mono ?_
  rintro z w' ⟨rfl, h1, h3⟩
  rw [hf] at h1 h3 ⊢
  exact ⟨rfl, h.gstep (h3.mono (fun z _ ⟨y, hy, hz⟩ => by injection hy with hy; subst hy; exact hz)) ⟨_, h1, by rw [upd_at]; rfl⟩⟩
theorem ww_resume1 (h : WW w0 w g mbg t mbt bt me cell other b1 R1 b2 R2 rg1 e0 fr 1 x rv rs) (hc : wfk cell) : Calls Try.prog 43 #[.pointer (some ⟨g, 0, none⟩), .int .i64 cell] w fun z w' => z = .returned (.tuple #[.pointer none, .int .i64 42]) ∧ WW w0 w' g mbg t mbt bt me cell other b1 R1 b2 R2 rg1 e0 fr 1 x rv rs := by
  refine (g1_resume1 h.gs hc).mono ?_
  rintro z w' ⟨rfl, h1, h3⟩
  exact ⟨rfl, h.gstep h3 h1⟩
theorem ww_gsusp (h : WW w0 w g mbg t mbt bt me cell other b1 R1 b2 R2 rg1 e0 fr 1 x rv rs) (hc : wfk cell) : Calls Try.prog 44 #[.pointer (some ⟨g, 0, none⟩), .pointer (some ⟨b1, 0, none⟩)] w fun z w' => z = .returned (.tuple #[]) ∧ WW w0 w' g mbg t mbt bt me cell other b1 R1 b2 R2 rg1 e0 (some b1) 0 x rv rs := by
  refine (g1_suspend h.gs hc h.f1).mono ?_
  rintro z w' ⟨rfl, h1, h3⟩
  exact ⟨rfl, h.gstep h3 h1⟩
theorem ww_gstate (h : WW w0 w g mbg t mbt bt me cell other b1 R1 b2 R2 rg1 e0 fr gst x rv rs) (hc : wfk cell) : Calls Try.prog 47 #[.pointer (some ⟨g, 0, none⟩), .int .i64 cell] w fun z w' => z = .returned (.int .i64 gst) ∧ w' = w := g1_state h.gs hc
theorem ww_gval_no (h : WW w0 w g mbg t mbt bt me cell other b1 R1 b2 R2 rg1 e0 none gst x rv rs) (hc : wfk cell) : Calls Try.prog 48 #[.pointer (some ⟨g, 0, none⟩), .int .i64 cell] w fun z w' => z = .returned (.slice none 0 0) ∧ w' = w := by
  obtain ⟨f, hg, hf⟩ := h.gs
  exact gvalues_none hg hc (fun y hy => by rw [hf] at hy; injection hy with hy; subst hy; rfl)
theorem ww_gval (h : WW w0 w g mbg t mbt bt me cell other b1 R1 b2 R2 rg1 e0 (some b1) gst x rv rs) (hc : wfk cell) (h0 : 0 ≤ cell) (hl : rg1.length = 2) : Calls Try.prog 48 #[.pointer (some ⟨g, 0, none⟩), .int .i64 cell] w fun z w' => ∃ A c, z = .returned (.slice A 6 c) ∧ WW w0 w' g mbg t mbt bt me cell other b1 R1 b2 R2 rg1 e0 (some b1) gst x rv rs := by
  refine (g1_values (n := 2) h.gs hc h.f1 h0 hl (by omega)).mono ?_
  rintro z w' ⟨A, c, rfl, hb⟩
  exact ⟨A, c, rfl, h.below hb⟩
theorem ww_now (h : WW w0 w g mbg t mbt bt me cell other b1 R1 b2 R2 rg1 e0 fr gst x rv (r0 ++ [x.e])) (hr : r0.length ≤ 1000) : Calls Try.prog 53 #[.pointer (some ⟨t, 0, none⟩)] w fun z w' => z = .returned (.pointer (some ⟨x.e, 0, none⟩)) ∧ WW w0 w' g mbg t mbt bt me cell other b1 R1 b2 R2 rg1 e0 fr gst x rv (r0 ++ [x.e]) := by
  obtain ⟨f, ht, hf⟩ := h.ts
  refine (now_any ht hr).mono ?_
  rintro z w' ⟨rfl, n, rfl⟩
  exact ⟨rfl, h.drew n⟩
theorem ww_push (h : WW w0 w g mbg t mbt bt me cell other b1 R1 b2 R2 rg1 e0 fr gst x rv rs) (hR : R1 ≠ R2) (hn : x.bs.length ≤ 1000) : Calls Try.prog 23 #[.pointer (some ⟨x.e, 1, none⟩), .pointer (some ⟨b1, 0, none⟩)] w fun z w' => z = .returned (.tuple #[]) ∧ ∃ lv', WW w0 w' g mbg t mbt bt me cell other b1 R1 b2 R2 rg1 e0 fr gst ⟨x.e, lv', x.bs ++ [b1], x.st, x.into⟩ rv rs := by
  obtain ⟨f, ht, hf⟩ := h.ts
  refine (tpush_any ht hf b1 hn).mono ?_
  rintro z w' ⟨rfl, ⟨lv', ht', _⟩, k⟩
  exact ⟨rfl, lv', h.tstep k (fun z e => .inr e) ⟨_, ht', upd_at _ _ _⟩ (ht.frame (ht.en other x hf) k h.f1) hR⟩
theorem ww_pop (h : WW w0 w g mbg t mbt bt me cell other b1 R1 b2 R2 rg1 e0 fr gst x rv rs) (hR : R1 ≠ R2) {bs0 : List Nat} (hb : x.bs = bs0 ++ [b1]) (hn : bs0.length < 1000) : Calls Try.prog 20 #[.pointer (some ⟨x.e, 1, none⟩)] w fun z w' => z = .returned (.pointer (some ⟨b1, 0, none⟩)) ∧ ∃ lv', WW w0 w' g mbg t mbt bt me cell other b1 R1 b2 R2 rg1 e0 fr gst ⟨x.e, lv', bs0, x.st, x.into⟩ rv rs := by
  obtain ⟨f, ht, hf⟩ := h.ts
  refine (tpop_any ht hf hb hn).mono ?_
  rintro z w' ⟨rfl, ⟨lv', ht'⟩, k⟩
  exact ⟨rfl, lv', h.tstep k (fun z e => .inr e) ⟨_, ht', upd_at _ _ _⟩ (ht.frame (ht.en other x hf) k h.f1) hR⟩
theorem ww_susp (h : WW w0 w g mbg t mbt bt me cell other b1 R1 b2 R2 rg1 e0 fr gst x rv (r0 ++ [x.e])) (hR : R1 ≠ R2) (hr : r0.length ≤ 1000) (ho : other ≠ -1) (j : Int) : Calls Try.prog 54 #[.pointer (some ⟨t, 0, none⟩), .int .i64 j] w fun z w' => z = .returned (.int .i64 0) ∧ ∃ rv', WW w0 w' g mbg t mbt bt me cell other b1 R1 b2 R2 rg1 e0 fr gst ⟨x.e, x.lv, x.bs, 1, j⟩ rv' r0 := by
  obtain ⟨f, ht, hf⟩ := h.ts
  refine (tsusp_any ht hf ho hr j).mono ?_
  rintro z w' ⟨rfl, ⟨rv', ht'⟩, k⟩
  exact ⟨rfl, rv', h.tstep k (fun z e => .inr e) ⟨_, ht', upd_at _ _ _⟩ (ht.frame (ht.en other x hf) k h.f1) hR⟩
theorem ww_end (h : WW w0 w g mbg t mbt bt me cell other b1 R1 b2 R2 rg1 e0 fr gst x rv (r0 ++ [x.e])) (hR : R1 ≠ R2) (hr : r0.length ≤ 1000) (ho : other ≠ -1) : Calls Try.prog 57 #[.pointer (some ⟨t, 0, none⟩)] w fun z w' => z = .returned (.int .i64 0) ∧ ∃ rv', WW w0 w' g mbg t mbt bt me cell other b1 R1 b2 R2 rg1 e0 fr gst ⟨x.e, .slice none 0 0, [], 0, x.into⟩ rv' r0 := by
  obtain ⟨f, ht, hf⟩ := h.ts
  refine (tend_any ht hf ho hr).mono ?_
  rintro z w' ⟨rfl, ⟨rv', ht'⟩, k⟩
  exact ⟨rfl, rv', h.tstep k (fun z e => .inr e) ⟨_, ht', upd_at _ _ _⟩ (ht.frame (ht.en other x hf) k h.f1) hR⟩
theorem ww_wake (h : WW w0 w g mbg t mbt bt me cell other b1 R1 b2 R2 rg1 e0 fr gst x rv rs) (hk : wfk other) (hR : R1 ≠ R2) {bs0 : List Nat} {i : Nat} (hb : x.bs = bs0 ++ [b1]) (hst : x.st = 1) (hi : x.into = i) (hil : i < rg1.length) (hrl : rg1.length ≤ 1000) (hn : x.bs.length ≤ 1000) (hr : rs.length ≤ 1000) (v : V) :
    Calls Try.prog 56 #[.pointer (some ⟨t, 0, none⟩), .int .i64 other, v.agg] w fun z w' => z = .returned (.int .i64 0) ∧ ∃ rv', WW w0 w' g mbg t mbt bt me cell other b1 R1 b2 R2 (rg1.set i v) e0 fr gst (runE x) rv' (rs ++ [x.e]) := by
  obtain ⟨f, ht, hf⟩ := h.ts
  refine (twake_yes ht hk hf hst hb hi h.f1 hil hrl hn hr v).mono ?_
  rintro z w' ⟨rfl, ⟨rv', ht'⟩, h1', k⟩
  exact ⟨rfl, rv', h.tstep k (fun z e => e) ⟨_, ht', upd_at _ _ _⟩ h1' hR⟩
theorem ww_tval (h : WW w0 w g mbg t mbt bt me cell other b1 R1 b2 R2 rg1 e0 fr gst x rv rs) (hk : wfk other) (h0 : 0 ≤ cell) (hb : x.bs = [b2] ++ [b1]) (hst : x.st = 1) (hl : rg1.length = 2) :
    Calls Try.prog 55 #[.pointer (some ⟨t, 0, none⟩), .int .i64 other] w fun z w' => ∃ A c, z = .returned (.slice A 11 c) ∧ WW w0 w' g mbg t mbt bt me cell other b1 R1 b2 R2 rg1 e0 fr gst x rv rs := by
  obtain ⟨f, ht, hf⟩ := h.ts
  obtain ⟨l1, hl1, c1⟩ := fr_told h.f1 (by omega)
  obtain ⟨l2, hl2, c2⟩ := fr_told h.f2 (by simp)
  rw [hl, if_pos h0] at hl1
  rw [if_neg (by decide)] at hl2
  simp at hl2
  refine (tval_yes ht hk hf hst [l2, l1] (by rw [hb]; rfl) (fun i b l hib hil => ?_) (n := 11) (by simp; omega) (by omega) (by rw [hb]; simp)).mono ?_
  · rw [hb] at hib
    match i with
    | 0 => simp at hib hil; subst hib hil; exact c2
    | 1 => simp at hib hil; subst hib hil; exact c1
    | i + 2 => simp at hib
  · rintro z w' ⟨A, c, rfl, hbe⟩
    exact ⟨A, c, rfl, h.below hbe⟩
theorem ww_tstate (h : WW w0 w g mbg t mbt bt me cell other b1 R1 b2 R2 rg1 e0 fr gst x rv rs) (hk : wfk other) : Calls Try.prog 58 #[.pointer (some ⟨t, 0, none⟩), .int .i64 other] w fun z w' => z = .returned (.int .i64 x.st) ∧ w' = w := by
  obtain ⟨f, ht, hf⟩ := h.ts
  exact tstate_some ht hk hf
theorem WW.reg (h : WW w0 w g mbg t mbt bt me cell other b1 R1 b2 R2 rg1 e0 fr gst x rv rs) {i : Nat} {v : V} (hi : rg1[i]? = some v) : w.cell? ⟨b1, 7, none⟩ = some (.slice (some ⟨R1, 0, none⟩) rg1.length rg1.length) ∧ w.cell? ⟨R1, i * 3, none⟩ = some (.int .i64 v.k) ∧ w.cell? ⟨R1, i * 3 + 1, none⟩ = some (.int .i64 v.n) ∧ w.cell? ⟨R1, i * 3 + 2, none⟩ = some (.string v.s) := by
  obtain ⟨hR, fn, cl, se, pc, dst, ex, hb⟩ := h.f1
  obtain ⟨v0, v1, v2⟩ := vcs_at hi
  exact ⟨hb.cell rfl, hR.cell v0, hR.cell v1, hR.cell v2⟩
end
end Go.Proofs.Ytpcamgjfikipgaa
