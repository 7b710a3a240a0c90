/- What each of the threads' functions makes of ThreadPlays' state. Conditions: fewer than 1000 keys. -/
import Derived.Test.YtpcamgjfikipgaaTPlay
namespace Go.Proofs.Ytpcamgjfikipgaa
open Go.RowKit
set_option linter.unusedVariables false
section
variable {w0 w : World} {t mb base me sb : Nat} {f : Int → Option TE} {fr : Int → Option FE} {sz : Nat} {rv : Value} {es es0 : List (Int × Nat)} {sf : Int → Option Int} {ssz : Nat} {iv : Value} {il : List Int} {k : Int}
theorem wfk8 (h : 0 ≤ k ∧ k ≤ 8) : wfk k := WalkArith.wf_i64 ⟨by omega, by omega⟩
theorem run_cons (es : List (Int × Nat)) (k : Int) (e : Nat) : me :: (es ++ [(k, e)]).map (fun p => p.2) = (me :: es.map (fun p => p.2)) ++ [e] := by simp
theorem PT.out (h : PT w0 w t mb base me sb f fr sz rv es sf ssz iv il) {x : TE} (hf : f k = some x) (hst : x.st ≠ 2) : ∀ p ∈ es, p.1 ≠ k := fun p hp e => by
  obtain ⟨z, h1, _, h3⟩ := h.run p hp
  rw [e, hf] at h1
  injection h1 with h1
  exact hst (by rw [h1]; exact h3)
theorem PT.nodup_more (h : PT w0 w t mb base me sb f fr sz rv es sf ssz iv il) {x : TE} (hf : f k = some x) (hst : x.st ≠ 2) (e : Nat) : ((es ++ [(k, e)]).map (fun p => p.1)).Nodup := by
  rw [List.map_append, List.nodup_append]
  refine ⟨h.nod, by simp, fun a ha b hb e2 => ?_⟩
  simp at hb
  obtain ⟨p, hp, rfl⟩ := List.mem_map.1 ha
  exact h.out hf hst p hp (e2.trans hb)
theorem pt_start_none (h : PT w0 w t mb base me sb f fr sz rv es sf ssz iv il) (hk : wfk k) (hf : f k = none) (b : Nat) : Calls Try.prog 52 #[.pointer (some ⟨t, 0, none⟩), .int .i64 k, .pointer (some ⟨b, 0, none⟩)] w fun z w' => z = .returned (.int .i64 42) ∧ w' = w := tstart_none h.ts hk hf b
theorem pt_start_no (h : PT w0 w t mb base me sb f fr sz rv es sf ssz iv il) (hk : wfk k) {x : TE} (hf : f k = some x) (hst : x.st ≠ 0) (b : Nat) : Calls Try.prog 52 #[.pointer (some ⟨t, 0, none⟩), .int .i64 k, .pointer (some ⟨b, 0, none⟩)] w fun z w' => z = .returned (.int .i64 42) ∧ w' = w := tstart_no h.ts hk hf hst b
theorem pt_start (h : PT w0 w t mb base me sb f fr sz rv es sf ssz iv il) (hk : wfk k) {x : TE} (hf : f k = some x) (hst : x.st = 0) (hel : es.length ≤ 500) {w1 : World} {b R : Nat} (hb : w.heap.size ≤ b) (hR : w.heap.size ≤ R) (hfr : FrG w1 b R (List.replicate 2 V.null) 0 (-1)) (hbe : Below w.heap.size w w1) :
    Calls Try.prog 52 #[.pointer (some ⟨t, 0, none⟩), .int .i64 k, .pointer (some ⟨b, 0, none⟩)] w1 fun z w' => z = .returned (.int .i64 0) ∧ ∃ y fr' rv', y.st = 2 ∧ PT w0 w' t mb base me sb (upd f k (some y)) fr' sz rv' (es ++ [(k, x.e)]) sf ssz iv il := by
  have h1 := h.below hbe
  have hx := h1.ts.en k x hf
  have hbs : x.bs = [] := by
    rcases h.each k x hf with ⟨_, e⟩ | ⟨e, _⟩
    · exact e
    · rcases e with ⟨e, _⟩ | e <;> (rw [hst] at e; cases e)
  have hbl : base ≤ w.heap.size := by have := h.ts.lo.1; have := h.ts.box.lt; omega
  refine (tstart_yes h1.ts hk hf hst hfr (by rw [hbs]; simp) (by simp; omega)).mono ?_
  rintro z w' ⟨rfl, ⟨lv', rv', hts⟩, hf2, kp⟩
  have hl2 := hf2.lt
  refine ⟨rfl, ⟨x.e, lv', x.bs ++ [b], 2, x.into⟩, _, rv', rfl, h1.step hf rfl (y := ⟨x.e, lv', x.bs ++ [b], 2, x.into⟩) (p' := some (b, R, List.replicate 2 V.null)) kp (Q := fun z => z = b) (fun z e => e) (fun z (e : z = b) => ⟨⟨by omega, fun e2 => by have := (World.ownsRow.lt h.own z e2).2; omega⟩, ?_, fun j p hp hj => ?_⟩) (by rw [run_cons]; exact hts) (.inr ⟨.inr rfl, _, rfl, by simp [hbs], hf2, by simp⟩) (fun q hq => ?_) (fun p hp => ?_) (h.nodup_more hf (by omega) x.e)⟩
  · subst e; exact fun e => by have := h.st.lt; omega
  · obtain ⟨a, c, _⟩ := h.fits j p hp
    subst e
    exact ⟨by omega, by omega⟩
  · injection hq with hq
    subst hq
    refine ⟨⟨hl2.1, hl2.2, by show base ≤ b; omega, by show base ≤ R; omega⟩, fun j q' hq' hj => ?_⟩
    obtain ⟨a, c, _⟩ := h.fits j q' hq'
    exact ⟨by show q'.2.1 ≠ R; omega, by show q'.1 ≠ R; omega, by show b ≠ q'.2.1; omega⟩
  · rcases List.mem_append.1 hp with hp | hp
    · exact .inr ⟨h.out hf (by omega) p hp, hp⟩
    · simp at hp; subst hp; exact .inl ⟨rfl, rfl, rfl⟩
theorem PT.top {e : Nat} (h : PT w0 w t mb base me sb f fr sz rv (es0 ++ [(k, e)]) sf ssz iv il) : ∃ x, f k = some x ∧ x.e = e ∧ x.st = 2 ∧ 0 ≤ k ∧ k ≤ 8 ∧ (∀ p ∈ es0, p.1 ≠ k) ∧ (es0.map (fun p => p.1)).Nodup := by
  obtain ⟨x, h1, h2, h3⟩ := h.run (k, e) (by simp)
  have hn := h.nod
  rw [List.map_append, List.nodup_append] at hn
  exact ⟨x, h1, h2, h3, (h.rng k x h1).1, (h.rng k x h1).2, fun p hp e2 => hn.2.2 p.1 (List.mem_map_of_mem hp) k (by simp) e2, hn.1⟩
theorem pt_susp_main (h : PT w0 w t mb base me sb f fr sz rv [] sf ssz iv il) (j : Int) : Calls Try.prog 54 #[.pointer (some ⟨t, 0, none⟩), .int .i64 j] w fun z w' => z = .returned (.int .i64 42) ∧ PT w0 w' t mb base me sb f fr sz rv [] sf ssz iv il := by
  refine (tsusp_main (rs := []) h.ts (by simp) j).mono ?_
  rintro z w' ⟨rfl, i, rfl⟩
  exact ⟨rfl, h.drew i⟩
theorem pt_end_main (h : PT w0 w t mb base me sb f fr sz rv [] sf ssz iv il) : Calls Try.prog 57 #[.pointer (some ⟨t, 0, none⟩)] w fun z w' => z = .returned (.int .i64 42) ∧ PT w0 w' t mb base me sb f fr sz rv [] sf ssz iv il := by
  refine (tend_main (rs := []) h.ts (by simp)).mono ?_
  rintro z w' ⟨rfl, i, rfl⟩
  exact ⟨rfl, h.drew i⟩
theorem pt_susp {e : Nat} (h : PT w0 w t mb base me sb f fr sz rv (es0 ++ [(k, e)]) sf ssz iv il) (hel : es0.length ≤ 500) : Calls Try.prog 54 #[.pointer (some ⟨t, 0, none⟩), .int .i64 1] w fun z w' => z = .returned (.int .i64 0) ∧ ∃ y fr' rv', y.st = 1 ∧ PT w0 w' t mb base me sb (upd f k (some y)) fr' sz rv' es0 sf ssz iv il := by
  obtain ⟨x, hf, rfl, hst, hk0, hk8, hout, hnod⟩ := h.top
  have hts := h.ts
  rw [run_cons] at hts
  refine (tsusp_any hts hf (by omega) (by simp; omega) 1).mono ?_
  rintro z w' ⟨rfl, ⟨rv', h1⟩, kp⟩
  have hs : sitsT w' base ⟨x.e, x.lv, x.bs, 1, 1⟩ (fr k) := by
    rcases h.each k x hf with ⟨e, _⟩ | ⟨_, q, e1, e2, e3, e4⟩
    · rw [hst] at e; cases e
    · exact .inr ⟨.inl ⟨rfl, rfl⟩, q, e1, e2, h.ts.frame (h.ts.en k x hf) kp e3, e4⟩
  refine ⟨rfl, _, _, rv', rfl, h.step hf rfl (y := ⟨x.e, x.lv, x.bs, 1, 1⟩) (p' := fr k) kp (Q := fun _ => False) (fun z e => .inr e) (fun z e => e.elim) h1 hs (fun q hq => ⟨?_, fun j q' hq' hj => ⟨(h.apart j k q' q hq' hq hj).1, (h.apart j k q' q hq' hq hj).2, (h.apart k j q q' hq hq' (fun e => hj e.symm)).2⟩⟩) (fun p hp => .inr ⟨hout p hp, by simp [hp]⟩) hnod⟩
  obtain ⟨a, b, c⟩ := h.fits k q hq
  have := kp.size
  exact ⟨by omega, by omega, c⟩
theorem pt_end {e : Nat} (h : PT w0 w t mb base me sb f fr sz rv (es0 ++ [(k, e)]) sf ssz iv il) (hel : es0.length ≤ 500) : Calls Try.prog 57 #[.pointer (some ⟨t, 0, none⟩)] w fun z w' => z = .returned (.int .i64 0) ∧ ∃ y fr' rv', y.st = 0 ∧ PT w0 w' t mb base me sb (upd f k (some y)) fr' sz rv' es0 sf ssz iv il := by
  obtain ⟨x, hf, rfl, hst, hk0, hk8, hout, hnod⟩ := h.top
  have hts := h.ts
  rw [run_cons] at hts
  refine (tend_any hts hf (by omega) (by simp; omega)).mono ?_
  rintro z w' ⟨rfl, ⟨rv', h1⟩, kp⟩
  exact ⟨rfl, _, _, rv', rfl, h.step hf rfl (y := ⟨x.e, .slice none 0 0, [], 0, x.into⟩) (p' := none) kp (Q := fun _ => False) (fun z e => .inr e) (fun z e => e.elim) h1 (.inl ⟨rfl, rfl⟩) (fun q hq => by cases hq) (fun p hp => .inr ⟨hout p hp, by simp [hp]⟩) hnod⟩
theorem pt_wake_none (h : PT w0 w t mb base me sb f fr sz rv es sf ssz iv il) (hk : wfk k) (hf : f k = none) (v : V) : Calls Try.prog 56 #[.pointer (some ⟨t, 0, none⟩), .int .i64 k, v.agg] w fun z w' => z = .returned (.int .i64 42) ∧ PT w0 w' t mb base me sb f fr sz rv es sf ssz iv il := by
  refine (twake_none h.ts hk hf v).mono ?_
  rintro z w' ⟨rfl, hb⟩
  exact ⟨rfl, h.below hb⟩
theorem pt_wake_no (h : PT w0 w t mb base me sb f fr sz rv es sf ssz iv il) (hk : wfk k) {x : TE} (hf : f k = some x) (hst : x.st ≠ 1) (v : V) : Calls Try.prog 56 #[.pointer (some ⟨t, 0, none⟩), .int .i64 k, v.agg] w fun z w' => z = .returned (.int .i64 42) ∧ PT w0 w' t mb base me sb f fr sz rv es sf ssz iv il := by
  refine (twake_no h.ts hk hf hst v).mono ?_
  rintro z w' ⟨rfl, hb⟩
  exact ⟨rfl, h.below hb⟩
theorem pt_wake (h : PT w0 w t mb base me sb f fr sz rv es sf ssz iv il) (hk : wfk k) {x : TE} (hf : f k = some x) (hst : x.st = 1) (hel : es.length ≤ 500) (v : V) :
    Calls Try.prog 56 #[.pointer (some ⟨t, 0, none⟩), .int .i64 k, v.agg] w fun z w' => z = .returned (.int .i64 0) ∧ ∃ y fr' rv' b R rg, y.st = 2 ∧ y.e = x.e ∧ y.bs = [b] ∧ FrG w' b R rg 5 (-1) ∧ rg.length = 2 ∧ rg[1]? = some v ∧ PT w0 w' t mb base me sb (upd f k (some y)) fr' sz rv' (es ++ [(k, x.e)]) sf ssz iv il := by
  rcases h.each k x hf with ⟨e, _⟩ | ⟨e, ⟨b, R, rg⟩, e1, e2, e3, e4⟩
  · rw [hst] at e; cases e
  have hin : x.into = ((1 : Nat) : Int) := by
    rcases e with ⟨_, e⟩ | e
    · exact e
    · rw [hst] at e; cases e
  simp only at e2 e3 e4
  refine (twake_yes (bs0 := []) h.ts hk hf hst e2 hin e3 (by omega) (by omega) (by rw [e2]; simp) (by simp; omega) v).mono ?_
  rintro z w' ⟨rfl, ⟨rv', h1⟩, h2, kp⟩
  have hl2 := h2.lt
  obtain ⟨hR, _⟩ := e3
  refine ⟨rfl, runE x, _, rv', b, R, rg.set 1 v, rfl, rfl, e2, h2, by simp [e4], by rw [List.getElem?_set_self (by omega)], h.step hf rfl (y := runE x) (p' := some (b, R, rg.set 1 v)) kp (Q := fun z => z = R) (fun z e => e) (fun z (ez : z = R) => ?_) (by rw [run_cons]; exact h1) (.inr ⟨.inr rfl, _, rfl, e2, h2, by simp [e4]⟩) (fun q hq => ?_) (fun p hp => ?_) (h.nodup_more hf (by omega) x.e)⟩
  · subst ez
    refine ⟨⟨(h.fits k _ e1).2.2.2, fun e2 => own_ne_blk h.own e2 hR (by decide) rfl⟩, im_ne hR h.st, fun j p hp hj => (h.apart j k p _ hp e1 hj).symm⟩
  · injection hq with hq
    subst hq
    exact ⟨⟨hl2.1, hl2.2, (h.fits k _ e1).2.2.1, (h.fits k _ e1).2.2.2⟩, fun j q' hq' hj => ⟨fun e5 => (h.apart j k q' _ hq' e1 hj).1 e5, fun e5 => (h.apart j k q' _ hq' e1 hj).2 e5, fun e5 => (h.apart k j _ q' e1 hq' (fun e => hj e.symm)).2 e5⟩⟩
  · rcases List.mem_append.1 hp with hp | hp
    · exact .inr ⟨h.out hf (by omega) p hp, hp⟩
    · simp at hp; subst hp; exact .inl ⟨rfl, rfl, rfl⟩
end
end Go.Proofs.Ytpcamgjfikipgaa
