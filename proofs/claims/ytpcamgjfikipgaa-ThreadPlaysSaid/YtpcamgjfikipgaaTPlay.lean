/- ThreadPlays' state: the threads, their frames, those that run, and the law's own map. Conditions: fewer than some thousands of keys. -/
import Derived.Test.YtpcamgjfikipgaaTGoes
namespace Go.Proofs.Ytpcamgjfikipgaa
open Go.RowKit
set_option linter.unusedVariables false
/-- A frame: its block, its registers' block, its registers. -/
abbrev FE := Nat × Nat × List V
def sitsT (w : World) (base : Nat) (x : TE) (p : Option FE) : Prop :=
  (x.st = 0 ∧ x.bs = []) ∨ ((x.st = 1 ∧ x.into = 1 ∨ x.st = 2) ∧ ∃ q, p = some q ∧ x.bs = [q.1] ∧ FrG w q.1 q.2.1 q.2.2 5 (-1) ∧ q.2.2.length = 2)
structure PT (w0 w : World) (t mb base me sb : Nat) (f : Int → Option TE) (fr : Int → Option FE) (sz : Nat) (rv : Value) (es : List (Int × Nat)) (sf : Int → Option Int) (ssz : Nat) (iv : Value) (il : List Int) : Prop where
  ts : TS w t mb base (mainE me) f sz rv (me :: es.map (fun p => p.2))
  st : IM elI w sb sf ssz
  each : ∀ k x, f k = some x → sitsT w base x (fr k)
  fits : ∀ k q, fr k = some q → q.1 < w.heap.size ∧ q.2.1 < w.heap.size ∧ base ≤ q.1 ∧ base ≤ q.2.1
  apart : ∀ k k' q q', fr k = some q → fr k' = some q' → k ≠ k' → q.2.1 ≠ q'.2.1 ∧ q.1 ≠ q'.2.1
  run : ∀ p ∈ es, ∃ x, f p.1 = some x ∧ x.e = p.2 ∧ x.st = 2
  nod : (es.map (fun p => p.1)).Nodup
  rng : ∀ k x, f k = some x → 0 ≤ k ∧ k ≤ 8
  ne : sb ≠ mb
  own : w.ownsRow base 3 1 iv il.length (il.map (Value.int .i64))
  lo : base ≤ sb ∧ w0.heap.size ≤ base
  bel : Below w0.heap.size w0 w
section
variable {w0 w w' : World} {t mb base me sb : Nat} {f : Int → Option TE} {fr : Int → Option FE} {sz : Nat} {rv : Value} {es : List (Int × Nat)} {sf : Int → Option Int} {ssz : Nat} {iv : Value} {il : List Int} {k : Int}
theorem sitsT.kp {x : TE} {p : Option FE} {S : Nat → Prop} (h : sitsT w base x p) (kp : Kp S w w') (hn : ∀ q, p = some q → ∀ b τ cs, (b = q.1 ∨ b = q.2.1) → (τ = 40 ∨ τ = 25) → Blk w b τ cs → ¬ S b) : sitsT w' base x p := by
  rcases h with h | ⟨h1, q, h2, h3, h4, h5⟩
  · exact .inl h
  · refine .inr ⟨h1, q, h2, h3, ?_, h5⟩
    obtain ⟨hR, fn, cl, se, pc, dst, ex, hb⟩ := h4
    exact FrG.kp ⟨hR, fn, cl, se, pc, dst, ex, hb⟩ kp (hn q h2 _ _ _ (.inl rfl) (.inl rfl) hb) (hn q h2 _ _ _ (.inr rfl) (.inr rfl) hR)
theorem PT.below (h : PT w0 w t mb base me sb f fr sz rv es sf ssz iv il) (q : Below w.heap.size w w') : PT w0 w' t mb base me sb f fr sz rv es sf ssz iv il :=
  ⟨h.ts.below q, h.st.below q, fun k x hx => (h.each k x hx).kp (S := fun _ => False) (Kp.of_below q) (fun _ _ _ _ _ _ _ _ => id), fun k p hp => by obtain ⟨a, b, c⟩ := h.fits k p hp; have := q.size; exact ⟨by omega, by omega, c⟩, h.apart, h.run, h.nod, h.rng, h.ne, own_kp h.own (Kp.of_below (S := fun _ => False) q) (fun _ _ => id), h.lo, h.bel.trans (q.mono h.bel.size)⟩
theorem PT.drew (h : PT w0 w t mb base me sb f fr sz rv es sf ssz iv il) (n : Nat) : PT w0 (w.drewN n) t mb base me sb f fr sz rv es sf ssz iv il := h.below (((Kp.refl (fun _ => False) w).drewN n).below (fun _ _ h => h))
/-- A step of thread k, which may write a block q of its own frame beside. -/
theorem PT.step (h : PT w0 w t mb base me sb f fr sz rv es sf ssz iv il) {x y : TE} (hf : f k = some x) (he : y.e = x.e) {S : Nat → Prop} (kp : Kp S w w') {Q : Nat → Prop} (hS : ∀ z, S z → Q z ∨ thS t mb x rv z)
    (hQ : ∀ z, Q z → (base ≤ z ∧ iv.ownBlock ≠ some z) ∧ z ≠ sb ∧ ∀ j p, fr j = some p → j ≠ k → p.1 ≠ z ∧ p.2.1 ≠ z) {rv' : Value} {es' : List (Int × Nat)} (ts' : TS w' t mb base (mainE me) (upd f k (some y)) sz rv' (me :: es'.map (fun p => p.2))) {p' : Option FE} (hy : sitsT w' base y p')
    (hp : ∀ q, p' = some q → (q.1 < w'.heap.size ∧ q.2.1 < w'.heap.size ∧ base ≤ q.1 ∧ base ≤ q.2.1) ∧ ∀ j q', fr j = some q' → j ≠ k → q'.2.1 ≠ q.2.1 ∧ q'.1 ≠ q.2.1 ∧ q.1 ≠ q'.2.1)
    (hrun : ∀ p ∈ es', (p.1 = k ∧ p.2 = y.e ∧ y.st = 2) ∨ (p.1 ≠ k ∧ p ∈ es)) (hnod : (es'.map (fun p => p.1)).Nodup) : PT w0 w' t mb base me sb (upd f k (some y)) (upd fr k p') sz rv' es' sf ssz iv il := by
  have hx := h.ts.en k x hf
  have key : ∀ j z, (upd f k (some y)) j = some z → (j = k ∧ z = y) ∨ (j ≠ k ∧ f j = some z) := fun j z hz => by
    unfold upd at hz; split at hz
    · rename_i hj; injection hz with hz; exact .inl ⟨hj, hz.symm⟩
    · rename_i hj; exact .inr ⟨hj, hz⟩
  have keyf : ∀ j z, (upd fr k p') j = some z → (j = k ∧ p' = some z) ∨ (j ≠ k ∧ fr j = some z) := fun j z hz => by
    unfold upd at hz; split at hz
    · rename_i hj; exact .inl ⟨hj, hz⟩
    · rename_i hj; exact .inr ⟨hj, hz⟩
  have hfo : ∀ j, j ≠ k → (upd fr k p') j = fr j := fun j hj => by unfold upd; rw [if_neg hj]
  have hsz := kp.size
  refine ⟨ts', h.st.kp kp (fun e => ?_), fun j z hz => ?_, fun j z hz => ?_, fun j j' z z' hz hz' hjj => ?_, fun p hp' => ?_, hnod, fun j z hz => ?_, h.ne, own_kp h.own kp (fun q hq e => ?_), h.lo, ?_⟩
  · rcases hS _ e with e | e
    · exact (hQ _ e).2.1 rfl
    · exact h.ts.imfar hx h.st h.ne e
  · rcases key j z hz with ⟨rfl, rfl⟩ | ⟨hj, hz2⟩
    · have : (upd fr j p') j = p' := upd_at _ _ _
      rw [this]; exact hy
    · rw [hfo j hj]
      refine (h.each j z hz2).kp kp (fun r hr b τ' cs' hb hτ hblk e => ?_)
      rcases hS _ e with e | e
      · have := (hQ _ e).2.2 j r hr hj
        rcases hb with e2 | e2
        · exact this.1 e2.symm
        · exact this.2 e2.symm
      · rcases hτ with rfl | rfl
        · exact h.ts.far hx hblk (by decide) (by decide) (by decide) (by decide) e
        · exact h.ts.far hx hblk (by decide) (by decide) (by decide) (by decide) e
  · rcases keyf j z hz with ⟨rfl, hz2⟩ | ⟨hj, hz2⟩
    · exact (hp z hz2).1
    · obtain ⟨a, b, c⟩ := h.fits j z hz2
      exact ⟨by omega, by omega, c⟩
  · rcases keyf j z hz with ⟨rfl, hz2⟩ | ⟨hj, hz2⟩
    · rcases keyf j' z' hz' with ⟨e, _⟩ | ⟨hj', hz2'⟩
      · exact absurd e.symm hjj
      · have := (hp z hz2).2 j' z' hz2' hj'
        exact ⟨fun e => this.1 e.symm, this.2.2⟩
    · rcases keyf j' z' hz' with ⟨e, hz2'⟩ | ⟨hj', hz2'⟩
      · have := (hp z' hz2').2 j z hz2 hj
        exact ⟨this.1, this.2.1⟩
      · exact h.apart j j' z z' hz2 hz2' hjj
  · rcases hrun p hp' with ⟨e1, e2, e3⟩ | ⟨e1, e2⟩
    · exact ⟨y, by rw [e1]; exact upd_at _ _ _, e2.symm, e3⟩
    · obtain ⟨z, h1, h2⟩ := h.run p e2
      exact ⟨z, by unfold upd; rw [if_neg e1]; exact h1, h2⟩
  · rcases key j z hz with ⟨rfl, rfl⟩ | ⟨hj, hz2⟩
    · exact h.rng j x hf
    · exact h.rng j z hz2
  · rcases hS _ e with e | e
    · exact (hQ _ e).1.2 hq
    · rcases e with e | e | e | e | e
      · exact own_ne_blk h.own hq hx.stk.blk (by decide) e
      · exact own_ne_own h.own hx.stk.own (by decide) hq e
      · exact own_ne_blk h.own hq h.ts.box (by decide) e
      · exact own_ne_own h.own h.ts.run (by decide) hq e
      · exact own_ne_im h.own hq h.ts.im e
  · refine kpb h.bel (kp.mono (fun z _ e => ?_))
    rcases hS z e with e | e
    · exact Nat.le_trans h.lo.2 (hQ _ e).1.1
    · exact Nat.le_trans h.lo.2 (h.ts.low hx e)
/-- The law's own map is written. -/
theorem PT.wrote (h : PT w0 w t mb base me sb f fr sz rv es sf ssz iv il) {sf' : Int → Option Int} {ssz' : Nat} (kp : Kp (fun z => z = sb) w w') (him : IM elI w' sb sf' ssz') : PT w0 w' t mb base me sb f fr sz rv es sf' ssz' iv il := by
  have hth : ∀ {j : Int} {x : TE}, ThE w base j x → ThE w' base j x := fun {j x} hx => hx.kp kp (fun (e : x.e = sb) => im_ne hx.stk.blk h.st e) (fun q hq (e : q = sb) => own_ne_im hx.stk.own hq h.st e)
  have hsz := kp.size
  exact ⟨⟨h.ts.box.kp kp (im_ne h.ts.box h.st), h.ts.im.kp kp (fun e => h.ne e.symm), hth h.ts.main, h.ts.mlv, fun j z hz => hth (h.ts.en j z hz), own_kp h.ts.run kp (fun q hq (e : q = sb) => own_ne_im h.ts.run hq h.st e), h.ts.apartM, h.ts.apart, h.ts.lo⟩, him,
    fun j z hz => (h.each j z hz).kp kp (fun r hr b τ cs hb hτ hblk e => im_ne hblk h.st e), fun j p hp => by obtain ⟨a, b, c⟩ := h.fits j p hp; exact ⟨by omega, by omega, c⟩, h.apart, h.run, h.nod, h.rng, h.ne, own_kp h.own kp (fun q hq (e : q = sb) => own_ne_im h.own hq h.st e), h.lo, kpb h.bel (kp.mono (fun z _ (e : z = sb) => by subst e; exact Nat.le_trans h.lo.2 h.lo.1))⟩
set_option maxRecDepth 100000 in
theorem PT.put (h : PT w0 w t mb base me sb f fr sz rv es sf ssz iv il) (hk : wfk k) (hs : ssz < 1000) (v : Int) : ∃ w', (Instr.mapUpdate 86 (.map (some sb)) (.int .i64 k) (.int .i64 v)).run Try.prog w = .ok () w' ∧ PT w0 w' t mb base me sb f fr sz rv es (upd sf k (some v)) (if (sf k).isSome then ssz else ssz + 1) iv il ∧ Kp (fun z => z = sb) w w' := by
  obtain ⟨w', hrun, him, hg, _⟩ := h.st.put Try.underlying86 (by omega) hk v
  have kp : Kp (fun z => z = sb) w w' := Kp.of_grown hg (fun q e => by injection e with e; exact e.symm)
  exact ⟨w', hrun, h.wrote kp him, kp⟩
set_option maxRecDepth 100000 in
theorem PT.del (h : PT w0 w t mb base me sb f fr sz rv es sf ssz iv il) (hk : wfk k) : ∃ w', (∀ ty, (Builtin.delete_ #[86, 3] ty #[.map (some sb), .int .i64 k]).run Try.prog w = .ok (.tuple #[]) w') ∧ PT w0 w' t mb base me sb f fr sz rv es (upd sf k none) (if (sf k).isSome then ssz - 1 else ssz) iv il ∧ Kp (fun z => z = sb) w w' := by
  obtain ⟨w', hrun, him, hg, _⟩ := h.st.del Try.underlying86 hk 0
  have kp : Kp (fun z => z = sb) w w' := Kp.of_grown hg (fun q e => by injection e with e; exact e.symm)
  exact ⟨w', fun _ => hrun, h.wrote kp him, kp⟩
/-- One more thread. -/
theorem PT.add (h : PT w0 w t mb base me sb f fr sz rv es sf ssz iv il) (hf : f k = none) (hr : 0 ≤ k ∧ k ≤ 8) (kp : Kp (fun b => b = mb) w w') {e : Nat} (ts' : TS w' t mb base (mainE me) (upd f k (some (idleE e))) (sz + 1) rv (me :: es.map (fun p => p.2))) :
    PT w0 w' t mb base me sb (upd f k (some (idleE e))) fr (sz + 1) rv es sf ssz iv il := by
  have key : ∀ j z, (upd f k (some (idleE e))) j = some z → (j = k ∧ z = idleE e) ∨ (j ≠ k ∧ f j = some z) := fun j z hz => by
    unfold upd at hz; split at hz
    · rename_i hj; injection hz with hz; exact .inl ⟨hj, hz.symm⟩
    · rename_i hj; exact .inr ⟨hj, hz⟩
  have hsz := kp.size
  refine ⟨ts', h.st.kp kp (fun e => h.ne e), fun j z hz => ?_, fun j p hp => (by obtain ⟨a, b, c⟩ := h.fits j p hp; exact ⟨by omega, by omega, c⟩), h.apart, fun p hp => ?_, h.nod, fun j z hz => ?_, h.ne, own_kp h.own kp (fun q hq (e : q = mb) => own_ne_im h.own hq h.ts.im e), h.lo, kpb h.bel (kp.mono (fun z _ (e : z = mb) => by subst e; exact Nat.le_trans h.lo.2 h.ts.lo.2))⟩
  · rcases key j z hz with ⟨rfl, rfl⟩ | ⟨hj, hz2⟩
    · exact .inl ⟨rfl, rfl⟩
    · exact (h.each j z hz2).kp kp (fun r hr b τ cs hb hτ hblk e => im_ne hblk h.ts.im e)
  · obtain ⟨z, h1, h2⟩ := h.run p hp
    refine ⟨z, ?_, h2⟩
    unfold upd
    rw [if_neg (fun e => by rw [e, hf] at h1; cases h1)]
    exact h1
  · rcases key j z hz with ⟨rfl, rfl⟩ | ⟨hj, hz2⟩
    · exact hr
    · exact h.rng j z hz2
/-- A thread that doesn't run is gone. -/
theorem PT.gone (h : PT w0 w t mb base me sb f fr sz rv es sf ssz iv il) (hno : ∀ x, f k = some x → x.st ≠ 2) (kp : Kp (fun b => b = mb) w w') {sz' : Nat} (ts' : TS w' t mb base (mainE me) (upd f k none) sz' rv (me :: es.map (fun p => p.2))) :
    PT w0 w' t mb base me sb (upd f k none) (upd fr k none) sz' rv es sf ssz iv il := by
  have key : ∀ j z, (upd f k none) j = some z → j ≠ k ∧ f j = some z := fun j z hz => by
    unfold upd at hz; split at hz
    · cases hz
    · rename_i hj; exact ⟨hj, hz⟩
  have keyf : ∀ j z, (upd fr k none) j = some z → j ≠ k ∧ fr j = some z := fun j z hz => by
    unfold upd at hz; split at hz
    · cases hz
    · rename_i hj; exact ⟨hj, hz⟩
  have hsz := kp.size
  refine ⟨ts', h.st.kp kp (fun e => h.ne e), fun j z hz => ?_, fun j p hp => (by obtain ⟨a, b, c⟩ := h.fits j p (keyf j p hp).2; exact ⟨by omega, by omega, c⟩), fun j j' z z' hz hz' hjj => h.apart j j' z z' (keyf j z hz).2 (keyf j' z' hz').2 hjj, fun p hp => ?_, h.nod, fun j z hz => h.rng j z (key j z hz).2, h.ne, own_kp h.own kp (fun q hq (e : q = mb) => own_ne_im h.own hq h.ts.im e), h.lo, kpb h.bel (kp.mono (fun z _ (e : z = mb) => by subst e; exact Nat.le_trans h.lo.2 h.ts.lo.2))⟩
  · obtain ⟨hj, hz2⟩ := key j z hz
    have e : (upd fr k none) j = fr j := by unfold upd; rw [if_neg hj]
    rw [e]
    exact (h.each j z hz2).kp kp (fun r hr b τ cs hb hτ hblk e => im_ne hblk h.ts.im e)
  · obtain ⟨z, h1, h2, h3⟩ := h.run p hp
    refine ⟨z, ?_, h2, h3⟩
    unfold upd
    rw [if_neg (fun e => by rw [e] at h1; exact hno z h1 h3)]
    exact h1
/-- The law's own list is written. -/
theorem PT.list (h : PT w0 w t mb base me sb f fr sz rv es sf ssz iv il) {iv' : Value} {il' : List Int} (kp : Kp (fun z => iv.ownBlock = some z) w w') (ho : w'.ownsRow base 3 1 iv' il'.length (il'.map (Value.int .i64))) : PT w0 w' t mb base me sb f fr sz rv es sf ssz iv' il' := by
  have hth : ∀ {j : Int} {x : TE}, ThE w base j x → ThE w' base j x := fun {j x} hx => hx.kp kp (fun e => own_ne_blk h.own e hx.stk.blk (by decide) rfl) (fun q hq e => own_ne_own hx.stk.own h.own (by decide) hq e)
  have hsz := kp.size
  exact ⟨⟨h.ts.box.kp kp (fun e => own_ne_blk h.own e h.ts.box (by decide) rfl), h.ts.im.kp kp (fun e => own_ne_im h.own e h.ts.im rfl), hth h.ts.main, h.ts.mlv, fun j z hz => hth (h.ts.en j z hz), own_kp h.ts.run kp (fun q hq e => own_ne_own h.ts.run h.own (by decide) hq e), h.ts.apartM, h.ts.apart, h.ts.lo⟩,
    h.st.kp kp (fun e => own_ne_im h.own e h.st rfl), fun j z hz => (h.each j z hz).kp kp (fun r hr b τ cs hb hτ hblk e => by rcases hτ with rfl | rfl <;> exact own_ne_blk h.own e hblk (by decide) rfl), fun j p hp => by obtain ⟨a, b, c⟩ := h.fits j p hp; exact ⟨by omega, by omega, c⟩, h.apart, h.run, h.nod, h.rng, h.ne, ho, h.lo,
    kpb h.bel (kp.mono (fun z _ e => Nat.le_trans h.lo.2 (own_at h.own e).choose_spec.2))⟩
end
end Go.Proofs.Ytpcamgjfikipgaa
