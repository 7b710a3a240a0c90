/- ThreadPlays: what its loop keeps, and each act's step of it. Conditions: fewer than some hundred acts. -/
import Derived.Test.YtpcamgjfikipgaaTPlayAsk
namespace Go.Proofs.Ytpcamgjfikipgaa
open Go.RowKit
set_option linter.unusedVariables false
def stf (f : Int → Option TE) : Int → Option Int := fun j => (f j).map (fun x => x.st)
def mil (es : List (Int × Nat)) : List Int := -1 :: es.map (fun p => p.1)
abbrev PF (w0 w : World) (t mb base me sb : Nat) (f : Int → Option TE) (fr : Int → Option FE) (sz : Nat) (rv : Value) (es : List (Int × Nat)) (iv : Value) : Prop := PT w0 w t mb base me sb f fr sz rv es (stf f) sz iv (mil es)
def TP (n : Nat) (w0 w : World) (t mb base me sb : Nat) (iv : Value) : Prop := ∃ f fr sz rv es, sz ≤ n ∧ es.length ≤ n ∧ PF w0 w t mb base me sb f fr sz rv es iv
theorem stf_upd (f : Int → Option TE) (k : Int) (y : TE) : stf (upd f k (some y)) = upd (stf f) k (some y.st) := by
  funext j; unfold stf upd; split <;> rfl
theorem stf_gone (f : Int → Option TE) (k : Int) : stf (upd f k none) = upd (stf f) k none := by
  funext j; unfold stf upd; split <;> rfl
theorem mil_snoc (es : List (Int × Nat)) (k : Int) (e : Nat) : mil (es ++ [(k, e)]) = mil es ++ [k] := by simp [mil]
theorem mil_len (es : List (Int × Nat)) : (mil es).length = es.length + 1 := by simp [mil]
section
variable {w0 w : World} {t mb base me sb : Nat} {f : Int → Option TE} {fr : Int → Option FE} {sz : Nat} {rv : Value} {es es0 : List (Int × Nat)} {sf : Int → Option Int} {ssz : Nat} {iv : Value} {il : List Int} {k : Int} {N : Nat}
/-- The law's own list, read. -/
theorem PT.row (h : PT w0 w t mb base me sb f fr sz rv es sf ssz iv il) {n : Nat} {v : Int} (hl : il.length = n + 1) (hv : il[n]? = some v) : ∃ g c, iv = .slice (some ⟨g, 0, none⟩) (n + 1) c ∧ n + 1 ≤ c ∧ w.cell? ⟨g, n, none⟩ = some (.int .i64 v) := by
  have ho := h.own
  rcases ho.2 with ⟨_, h0⟩ | ⟨g, cap, cur, hrv, hb, hg, hcap, _⟩
  · omega
  · rw [hl] at hrv hcap
    have hc := World.ownsRow.cells ho (g := g) (by rw [hrv]; rfl) n (.int .i64 v) (by simp [hv])
    rw [add_lit, Nat.zero_add] at hc
    exact ⟨g, cap, hrv, hcap, hc⟩
theorem tp_skip (h : PF w0 w t mb base me sb f fr sz rv es iv) (hs : sz ≤ N) (he : es.length ≤ N) : TP N w0 w t mb base me sb iv := ⟨f, fr, sz, rv, es, hs, he, h⟩
theorem TP.below {w' : World} (h : TP N w0 w t mb base me sb iv) (q : Below w.heap.size w w') : TP N w0 w' t mb base me sb iv := by
  obtain ⟨f, fr, sz, rv, es, h1, h2, h3⟩ := h
  exact ⟨f, fr, sz, rv, es, h1, h2, h3.below q⟩
theorem TP.mono {M : Nat} (h : TP N w0 w t mb base me sb iv) (q : N ≤ M) : TP M w0 w t mb base me sb iv := by
  obtain ⟨f, fr, sz, rv, es, h1, h2, h3⟩ := h
  exact ⟨f, fr, sz, rv, es, by omega, by omega, h3⟩
theorem tp_add (h : PF w0 w t mb base me sb f fr sz rv es iv) (hr : 0 ≤ k ∧ k ≤ 8) (hf : f k = none) (hs : sz ≤ N) (he : es.length ≤ N) (hN : N ≤ 100) : Calls Try.prog 51 #[.pointer (some ⟨t, 0, none⟩), .int .i64 k] w fun z w' => z = .returned (.tuple #[]) ∧ ∃ w2, (Instr.mapUpdate 86 (.map (some sb)) (.int .i64 k) (.int .i64 0)).run Try.prog w' = .ok () w2 ∧ TP (N + 1) w0 w2 t mb base me sb iv := by
  refine (pt_add h hr hf (by omega)).mono ?_
  rintro z w' ⟨rfl, y, hy, h1⟩
  obtain ⟨w2, hrun, h2, _⟩ := h1.put (wfk8 hr) (by omega) 0
  refine ⟨rfl, w2, hrun, upd f k (some y), fr, sz + 1, rv, es, by omega, by omega, ?_⟩
  have e : (stf f k).isSome = false := by simp [stf, hf]
  rw [e] at h2
  unfold PF
  rw [stf_upd, hy]
  exact h2
theorem put_in {y : TE} (h : PT w0 w t mb base me sb (upd f k (some y)) fr sz rv es (stf f) sz iv il) (hk : wfk k) {x : TE} (hf : f k = some x) (hs : sz ≤ 500) {v : Int} (hy : y.st = v) :
    ∃ w2, (Instr.mapUpdate 86 (.map (some sb)) (.int .i64 k) (.int .i64 v)).run Try.prog w = .ok () w2 ∧ PT w0 w2 t mb base me sb (upd f k (some y)) fr sz rv es (stf (upd f k (some y))) sz iv il ∧ Kp (fun z => z = sb) w w2 := by
  obtain ⟨w2, hrun, h2, kp⟩ := h.put hk (by omega) v
  have e : (stf f k).isSome = true := by simp [stf, hf]
  rw [e] at h2
  refine ⟨w2, hrun, ?_, kp⟩
  rw [stf_upd, hy]
  exact h2
theorem tp_start (h : PF w0 w t mb base me sb f fr sz rv es iv) (hr : 0 ≤ k ∧ k ≤ 8) {x : TE} (hf : f k = some x) (hst : x.st = 0) (hs : sz ≤ N) (he : es.length ≤ N) (hN : N ≤ 100) {w1 : World} {b R : Nat} (hb : w.heap.size ≤ b) (hR : w.heap.size ≤ R) (hfr : FrG w1 b R (List.replicate 2 V.null) 0 (-1)) (hbe : Below w.heap.size w w1) :
    Calls Try.prog 52 #[.pointer (some ⟨t, 0, none⟩), .int .i64 k, .pointer (some ⟨b, 0, none⟩)] w1 fun z w' => z = .returned (.int .i64 0) ∧ ∃ w2 f' fr' rv' e, (Instr.mapUpdate 86 (.map (some sb)) (.int .i64 k) (.int .i64 2)).run Try.prog w' = .ok () w2 ∧ PT w0 w2 t mb base me sb f' fr' sz rv' (es ++ [(k, e)]) (stf f') sz iv (mil es) := by
  refine (pt_start h (wfk8 hr) hf hst (by omega) hb hR hfr hbe).mono ?_
  rintro z w' ⟨rfl, y, fr', rv', hy, h1⟩
  obtain ⟨w2, hrun, h2, _⟩ := put_in h1 (wfk8 hr) hf (by omega) hy
  exact ⟨rfl, w2, _, _, _, _, hrun, h2⟩
theorem tp_push {e : Nat} (h : PT w0 w t mb base me sb f fr sz rv (es ++ [(k, e)]) (stf f) sz iv (mil es)) (hs : sz ≤ N) (he : es.length + 1 ≤ N) {iv' : Value} {w' : World} (ho : w'.ownsRow base 3 1 iv' ((es.length + 1) + 1) ((mil es).map (Value.int .i64) ++ [.int .i64 k])) (hg : w.grownBy w' iv.ownBlock) :
    PF w0 w' t mb base me sb f fr sz rv (es ++ [(k, e)]) iv' := by
  unfold PF
  rw [mil_snoc]
  refine h.list (Kp.of_grown hg (fun g hg => hg)) ?_
  rw [List.length_append, mil_len, List.map_append]
  exact ho
theorem tp_pop {g c n : Nat} (h : PT w0 w t mb base me sb f fr sz rv es (stf f) sz (.slice (some ⟨g, 0, none⟩) (n + 1 + 1) c) (mil es ++ [k])) (hn : es.length = n) : PF w0 w t mb base me sb f fr sz rv es (.slice (some ⟨g, 0, none⟩) (n + 1) c) := by
  have ho := h.own
  rw [List.length_append, mil_len, List.map_append, List.length_singleton, List.map_singleton, hn] at ho
  have hp := ownsRow_pop (by simp [mil_len, hn]) ho
  refine h.list ((Kp.refl _ _)) ?_
  rw [mil_len, hn]
  exact hp
theorem tp_susp {e g c n : Nat} (h : PF w0 w t mb base me sb f fr sz rv (es0 ++ [(k, e)]) (.slice (some ⟨g, 0, none⟩) (n + 1 + 1) c)) (hn : es0.length = n) (hs : sz ≤ N) (he : n + 1 ≤ N) (hN : N ≤ 100) : Calls Try.prog 54 #[.pointer (some ⟨t, 0, none⟩), .int .i64 1] w fun z w' => z = .returned (.int .i64 0) ∧ ∃ w2, (Instr.mapUpdate 86 (.map (some sb)) (.int .i64 k) (.int .i64 1)).run Try.prog w' = .ok () w2 ∧ TP (N + 1) w0 w2 t mb base me sb (.slice (some ⟨g, 0, none⟩) (n + 1) c) := by
  obtain ⟨x, hf, _, _, hk0, hk8, _⟩ := h.top
  refine (pt_susp h (by omega)).mono ?_
  rintro z w' ⟨rfl, y, fr', rv', hy, h1⟩
  obtain ⟨w2, hrun, h2, _⟩ := put_in h1 (wfk8 ⟨hk0, hk8⟩) hf (by omega) hy
  rw [mil_snoc] at h2
  exact ⟨rfl, w2, hrun, _, _, _, _, _, by omega, by omega, tp_pop h2 hn⟩
theorem tp_end {e g c n : Nat} (h : PF w0 w t mb base me sb f fr sz rv (es0 ++ [(k, e)]) (.slice (some ⟨g, 0, none⟩) (n + 1 + 1) c)) (hn : es0.length = n) (hs : sz ≤ N) (he : n + 1 ≤ N) (hN : N ≤ 100) : Calls Try.prog 57 #[.pointer (some ⟨t, 0, none⟩)] w fun z w' => z = .returned (.int .i64 0) ∧ ∃ w2, (Instr.mapUpdate 86 (.map (some sb)) (.int .i64 k) (.int .i64 0)).run Try.prog w' = .ok () w2 ∧ TP (N + 1) w0 w2 t mb base me sb (.slice (some ⟨g, 0, none⟩) (n + 1) c) := by
  obtain ⟨x, hf, _, _, hk0, hk8, _⟩ := h.top
  refine (pt_end h (by omega)).mono ?_
  rintro z w' ⟨rfl, y, fr', rv', hy, h1⟩
  obtain ⟨w2, hrun, h2, _⟩ := put_in h1 (wfk8 ⟨hk0, hk8⟩) hf (by omega) hy
  rw [mil_snoc] at h2
  exact ⟨rfl, w2, hrun, _, _, _, _, _, by omega, by omega, tp_pop h2 hn⟩
theorem tp_susp_main (h : PF w0 w t mb base me sb f fr sz rv [] iv) (hs : sz ≤ N) (j : Int) : Calls Try.prog 54 #[.pointer (some ⟨t, 0, none⟩), .int .i64 j] w fun z w' => z = .returned (.int .i64 42) ∧ TP (N + 1) w0 w' t mb base me sb iv := by
  refine (pt_susp_main h j).mono ?_
  rintro z w' ⟨rfl, h1⟩
  exact ⟨rfl, _, _, _, _, _, by omega, by simp, h1⟩
theorem tp_end_main (h : PF w0 w t mb base me sb f fr sz rv [] iv) (hs : sz ≤ N) : Calls Try.prog 57 #[.pointer (some ⟨t, 0, none⟩)] w fun z w' => z = .returned (.int .i64 42) ∧ TP (N + 1) w0 w' t mb base me sb iv := by
  refine (pt_end_main h).mono ?_
  rintro z w' ⟨rfl, h1⟩
  exact ⟨rfl, _, _, _, _, _, by omega, by simp, h1⟩
/-- A thread that waits is woken; its second register is what it is handed. -/
theorem tp_wake (h : PF w0 w t mb base me sb f fr sz rv es iv) (hr : 0 ≤ k ∧ k ≤ 8) {x : TE} (hf : f k = some x) (hst : x.st = 1) (hs : sz ≤ N) (he : es.length ≤ N) (hN : N ≤ 100) (v : V) :
    Calls Try.prog 56 #[.pointer (some ⟨t, 0, none⟩), .int .i64 k, v.agg] w fun z w' => z = .returned (.int .i64 0) ∧ ∃ w2 f' fr' rv' e y b R rg, (Instr.mapUpdate 86 (.map (some sb)) (.int .i64 k) (.int .i64 2)).run Try.prog w' = .ok () w2 ∧ PT w0 w2 t mb base me sb f' fr' sz rv' (es ++ [(k, e)]) (stf f') sz iv (mil es) ∧ f' k = some y ∧ y.e = e ∧ y.bs = [b] ∧ FrG w2 b R rg 5 (-1) ∧ rg.length = 2 ∧ rg[1]? = some v := by
  refine (pt_wake h (wfk8 hr) hf hst (by omega) v).mono ?_
  rintro z w' ⟨rfl, y, fr', rv', b, R, rg, hy, hye, hyb, hfr, hrl, hr1, h1⟩
  obtain ⟨w2, hrun, h2, kp⟩ := put_in h1 (wfk8 hr) hf (by omega) hy
  obtain ⟨hR, fn, cl, se, pc, dst, ex, hbb⟩ := hfr
  have hfr2 : FrG w2 b R rg 5 (-1) := FrG.kp ⟨hR, fn, cl, se, pc, dst, ex, hbb⟩ kp (im_ne hbb h1.st) (im_ne hR h1.st)
  exact ⟨rfl, w2, _, _, _, _, y, b, R, rg, hrun, h2, upd_at _ _ _, hye, hyb, hfr2, hrl, hr1⟩
theorem tp_drop (h : PF w0 w t mb base me sb f fr sz rv es iv) (hr : 0 ≤ k ∧ k ≤ 8) (hno : ∀ x, f k = some x → x.st ≠ 2) (hs : sz ≤ N) (he : es.length ≤ N) {d : Int} (hd : (match f k with | some x => (if x.st = 1 then (1 : Int) else 0) | none => 0) = d) :
    Calls Try.prog 61 #[.pointer (some ⟨t, 0, none⟩), .int .i64 k] w fun z w' => z = .returned (.int .i64 d) ∧ ∃ w2, (∀ ty, (Builtin.delete_ #[86, 3] ty #[.map (some sb), .int .i64 k]).run Try.prog w' = .ok (.tuple #[]) w2) ∧ TP (N + 1) w0 w2 t mb base me sb iv := by
  refine (pt_drop h (wfk8 hr) hno hd).mono ?_
  rintro z w' ⟨rfl, h1⟩
  obtain ⟨w2, hrun, h2, _⟩ := h1.del (wfk8 hr)
  refine ⟨rfl, w2, hrun, upd f k none, upd fr k none, (if (f k).isSome then sz - 1 else sz), rv, es, by split <;> omega, by omega, ?_⟩
  have e : (stf f k).isSome = (f k).isSome := by simp [stf]
  rw [e] at h2
  unfold PF
  rw [stf_gone]
  exact h2
/-- Which runs. -/
theorem tp_now (h : PF w0 w t mb base me sb f fr sz rv es iv) (he : es.length ≤ N) (hN : N ≤ 100) {v : Int} (hv : (mil es)[es.length]? = some v) : ∃ e, w.cell? ⟨e, 0, none⟩ = some (.int .i64 v) ∧ e < w.heap.size ∧ ∀ W, Below w.heap.size w W → Calls Try.prog 53 #[.pointer (some ⟨t, 0, none⟩)] W fun z w' => z = .returned (.pointer (some ⟨e, 0, none⟩)) ∧ ∃ n, w' = W.drewN n := by
  rcases List.eq_nil_or_concat es with rfl | ⟨es0, ⟨k, e⟩, rfl⟩
  · simp [mil] at hv
    subst hv
    have hb := h.ts.main.stk.blk
    refine ⟨me, hb.cell rfl, hb.lt, fun W hW => (pt_now_main (h.below hW)).mono ?_⟩
    rintro z w' ⟨rfl, _, hc, hw⟩
    exact ⟨rfl, hw⟩
  · rw [List.concat_eq_append] at h hv he
    have hv' : v = k := by
      rw [mil_snoc, List.getElem?_append_right (by simp [mil_len]), mil_len] at hv
      simp at hv
      exact hv.symm
    subst hv'
    obtain ⟨x, h1, h2, _⟩ := h.top
    have hb := (h.ts.en _ x h1).stk.blk
    rw [h2] at hb
    refine ⟨e, hb.cell rfl, hb.lt, fun W hW => (pt_now (h.below hW) (by simp at he; omega)).mono ?_⟩
    rintro z w' ⟨rfl, _, hc, hw⟩
    exact ⟨rfl, hw⟩
theorem tp_deep {m : Nat} (h : PF w0 w t mb base me sb f fr sz rv es iv) (hm : es.length = m) : Calls Try.prog 62 #[.pointer (some ⟨t, 0, none⟩)] w fun z w' => z = .returned (.int .i64 ((m + 1 : Nat) : Int)) ∧ w' = w := by
  subst hm; exact pt_deep h
theorem mil_last (es : List (Int × Nat)) : ∃ v, (mil es)[es.length]? = some v := ⟨_, List.getElem?_eq_getElem (by rw [mil_len]; omega)⟩
theorem mil_last_snoc (es : List (Int × Nat)) (k : Int) (e : Nat) : (mil (es ++ [(k, e)]))[(es ++ [(k, e)]).length]? = some k := by
  rw [mil_snoc, List.getElem?_append_right (by simp [mil_len]), mil_len]
  simp
/-- Behind a wake: what runs is there still. -/
theorem tp_wake_push {e : Nat} {w2 w' : World} {b R : Nat} {rg : List V} (h : PT w0 w2 t mb base me sb f fr sz rv (es ++ [(k, e)]) (stf f) sz iv (mil es)) (hfr : FrG w2 b R rg 5 (-1)) (hs : sz ≤ N) (he : es.length + 1 ≤ N) {iv' : Value} (ho : w'.ownsRow base 3 1 iv' ((es.length + 1) + 1) ((mil es).map (Value.int .i64) ++ [.int .i64 k])) (hg : w2.grownBy w' iv.ownBlock) :
    PF w0 w' t mb base me sb f fr sz rv (es ++ [(k, e)]) iv' ∧ FrG w' b R rg 5 (-1) := by
  refine ⟨tp_push h hs he ho hg, ?_⟩
  obtain ⟨hR, fn, cl, se, pc, dst, ex, hbb⟩ := hfr
  exact FrG.kp ⟨hR, fn, cl, se, pc, dst, ex, hbb⟩ (Kp.of_grown hg (fun g hg => hg)) (fun e => own_ne_blk h.own e hbb (by decide) rfl) (fun e => own_ne_blk h.own e hR (by decide) rfl)
theorem entry_in {D : DataW Unit} {sf : Int → Option Int} (hD : ∀ k, wfk k → (Maps.has D (.int .i64 k) = (sf k).isSome ∧ ∀ x, sf k = some x → ∀ zd, D.atKey (.int .i64 k) zd = elI.cd x)) {x c : Int} {kl : Go.Lit} {y : DataW Unit × List MemPlace} (hkey : keyOf Try.prog 3 (.int .i64 x) = some kl) (hh : Maps.has D kl = true) (hv : elI.R (elI.val c) = some y) (hat : ∀ zd, D.atKey kl zd = y.1) : sf x = some c ∧ wfk x := by
  obtain ⟨x', e1, e2, e3⟩ := Maps.keyOf_int_inv Try.underlying3 hkey
  injection e1 with _ e1
  subst e1 e2
  have hw : wfk x := e3
  obtain ⟨h1, h2⟩ := hD x hw
  rw [hh] at h1
  obtain ⟨s, hs⟩ := Option.isSome_iff_exists.1 h1.symm
  have := h2 s hs (elI.cd c)
  rw [hat] at this
  have hy := elI.hR c
  rw [hv] at hy
  injection hy with hy
  subst hy
  rw [hs, elI.inj _ _ this]
  exact ⟨rfl, hw⟩
theorem stf_some {f : Int → Option TE} {x c : Int} (h : stf f x = some c) : ∃ y, f x = some y ∧ y.st = c := by
  unfold stf at h
  rcases hf : f x with _ | y
  · rw [hf] at h; cases h
  · rw [hf] at h; injection h with h; exact ⟨y, rfl, h⟩
end
end Go.Proofs.Ytpcamgjfikipgaa
