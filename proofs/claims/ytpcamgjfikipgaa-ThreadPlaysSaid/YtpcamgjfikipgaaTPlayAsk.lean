/- ThreadPlays: what is added, dropped and asked. Conditions: fewer than 1000 keys. -/
import Derived.Test.YtpcamgjfikipgaaTPlayOps
import Derived.Test.YtpcamgjfikipgaaOpen
namespace Go.Proofs.Ytpcamgjfikipgaa
open Go.RowKit
set_option linter.unusedVariables false
section
variable {w0 w : World} {t mb base me sb : Nat} {f : Int → Option TE} {fr : Int → Option FE} {sz : Nat} {rv : Value} {es es0 : List (Int × Nat)} {sf : Int → Option Int} {ssz : Nat} {iv : Value} {il : List Int} {k : Int}
theorem pt_add (h : PT w0 w t mb base me sb f fr sz rv es sf ssz iv il) (hr : 0 ≤ k ∧ k ≤ 8) (hf : f k = none) (hs : sz < 1000) : Calls Try.prog 51 #[.pointer (some ⟨t, 0, none⟩), .int .i64 k] w fun z w' => z = .returned (.tuple #[]) ∧ ∃ y, y.st = 0 ∧ PT w0 w' t mb base me sb (upd f k (some y)) fr (sz + 1) rv es sf ssz iv il := by
  refine (tadd_any h.ts (wfk8 hr) hf hs).mono ?_
  rintro z w' ⟨rfl, h1, kp⟩
  exact ⟨rfl, _, rfl, h.add hf hr kp h1⟩
theorem pt_drop (h : PT w0 w t mb base me sb f fr sz rv es sf ssz iv il) (hk : wfk k) (hno : ∀ x, f k = some x → x.st ≠ 2) {d : Int} (hd : (match f k with | some x => (if x.st = 1 then (1 : Int) else 0) | none => 0) = d) :
    Calls Try.prog 61 #[.pointer (some ⟨t, 0, none⟩), .int .i64 k] w fun z w' => z = .returned (.int .i64 d) ∧ PT w0 w' t mb base me sb (upd f k none) (upd fr k none) (if (f k).isSome then sz - 1 else sz) rv es sf ssz iv il := by
  refine (tdrop_any h.ts hk).mono ?_
  rintro z w' ⟨rfl, h1, kp⟩
  refine ⟨?_, h.gone hno kp h1⟩
  congr 2
  rw [← hd]
  rcases hf : f k with _ | x
  · rfl
  · simp only [tdropN]
    rcases h.each k x hf with ⟨e1, e2⟩ | ⟨e1, q, _, e2, _⟩
    · rw [e2, e1]; rfl
    · rcases e1 with ⟨e1, _⟩ | e1
      · rw [e2, e1]; rfl
      · exact absurd e1 (hno x hf)
theorem pt_deep (h : PT w0 w t mb base me sb f fr sz rv es sf ssz iv il) : Calls Try.prog 62 #[.pointer (some ⟨t, 0, none⟩)] w fun z w' => z = .returned (.int .i64 ((es.length + 1 : Nat) : Int)) ∧ w' = w := by
  have := deep_any h.ts
  simpa using this
theorem pt_now_main (h : PT w0 w t mb base me sb f fr sz rv [] sf ssz iv il) : Calls Try.prog 53 #[.pointer (some ⟨t, 0, none⟩)] w fun z w' => z = .returned (.pointer (some ⟨me, 0, none⟩)) ∧ PT w0 w' t mb base me sb f fr sz rv [] sf ssz iv il ∧ w'.cell? ⟨me, 0, none⟩ = some (.int .i64 (-1)) ∧ ∃ n, w' = w.drewN n := by
  refine (now_any (rs := []) (e := me) h.ts (by simp)).mono ?_
  rintro z w' ⟨rfl, i, rfl⟩
  have hc : w.cell? ⟨me, 0, none⟩ = some (.int .i64 (-1)) := h.ts.main.stk.blk.cell rfl
  exact ⟨rfl, h.drew i, hc, i, rfl⟩
theorem pt_now {e : Nat} (h : PT w0 w t mb base me sb f fr sz rv (es0 ++ [(k, e)]) sf ssz iv il) (hel : es0.length ≤ 500) : Calls Try.prog 53 #[.pointer (some ⟨t, 0, none⟩)] w fun z w' => z = .returned (.pointer (some ⟨e, 0, none⟩)) ∧ PT w0 w' t mb base me sb f fr sz rv (es0 ++ [(k, e)]) sf ssz iv il ∧ w'.cell? ⟨e, 0, none⟩ = some (.int .i64 k) ∧ ∃ n, w' = w.drewN n := by
  obtain ⟨x, hf, rfl, _⟩ := h.top
  have hts := h.ts
  rw [run_cons] at hts
  refine (now_any hts (by simp; omega)).mono ?_
  rintro z w' ⟨rfl, i, rfl⟩
  have hc : w.cell? ⟨x.e, 0, none⟩ = some (.int .i64 k) := (hts.en k x hf).stk.blk.cell rfl
  exact ⟨rfl, h.drew i, hc, i, rfl⟩
theorem pt_top {x : TE} (h : PT w0 w t mb base me sb f fr sz rv es sf ssz iv il) (hf : f k = some x) {b : Nat} (hb : x.bs = [b]) : Calls Try.prog 33 #[.pointer (some ⟨x.e, 1, none⟩)] w fun z w' => z = .returned (.pointer (some ⟨b, 0, none⟩)) ∧ ∃ n, w' = w.drewN n := top_some (h.ts.en k x hf).stk (b := b) (by rw [hb]; rfl) (by rw [hb]; simp)
theorem pt_cells (h : PT w0 w t mb base me sb f fr sz rv es sf ssz iv il) (hs : sz ≤ 1000) : Calls Try.prog 63 #[.pointer (some ⟨t, 0, none⟩)] w fun z w' => ∃ A c, z = .returned (.slice A sz c) ∧ Below w.heap.size w w' := tcells_any h.ts hs
theorem pt_state (h : PT w0 w t mb base me sb f fr sz rv es sf ssz iv il) (hk : wfk k) {x : TE} (hf : f k = some x) : Calls Try.prog 58 #[.pointer (some ⟨t, 0, none⟩), .int .i64 k] w fun z w' => z = .returned (.int .i64 x.st) ∧ w' = w := tstate_some h.ts hk hf
theorem pt_val_no (h : PT w0 w t mb base me sb f fr sz rv es sf ssz iv il) (hk : wfk k) {x : TE} (hf : f k = some x) (hst : x.st ≠ 1) : Calls Try.prog 55 #[.pointer (some ⟨t, 0, none⟩), .int .i64 k] w fun z w' => z = .returned (.slice none 0 0) ∧ w' = w :=
  tval_no h.ts hk (fun y hy => by rw [hf] at hy; injection hy with hy; subst hy; exact hst)
theorem told_one (h : PT w0 w t mb base me sb f fr sz rv es sf ssz iv il) {x : TE} (hf : f k = some x) (hst : x.st ≠ 0) : ∃ l : List V, l.length = 5 ∧ [l].length = x.bs.length ∧ x.bs.length ≤ 1000 ∧ ∀ (i b : Nat) (l' : List V), x.bs[i]? = some b → [l][i]? = some l' → ∀ w' : World, Below w.heap.size w w' → Calls Try.prog 26 #[ptr b] w' (Told w' l') := by
  rcases h.each k x hf with ⟨e, _⟩ | ⟨_, q, _, e2, e3, e4⟩
  · exact absurd e hst
  · obtain ⟨l, hl, c⟩ := fr_told e3 (by omega)
    rw [e4, if_neg (by decide)] at hl
    refine ⟨l, hl, by rw [e2]; rfl, by rw [e2]; simp, fun i b l' h1 h2 => ?_⟩
    rw [e2] at h1
    match i with
    | 0 => simp at h1 h2; subst h1 h2; exact c
    | i + 1 => simp at h1
theorem pt_val (h : PT w0 w t mb base me sb f fr sz rv es sf ssz iv il) (hk : wfk k) {x : TE} (hf : f k = some x) (hst : x.st = 1) : Calls Try.prog 55 #[.pointer (some ⟨t, 0, none⟩), .int .i64 k] w fun z w' => ∃ A c, z = .returned (.slice A 5 c) ∧ Below w.heap.size w w' := by
  obtain ⟨l, hl, h1, h2, h3⟩ := told_one h hf (by omega)
  exact tval_yes h.ts hk hf hst [l] h1 h3 (n := 5) (by simp [hl]) (by omega) (by omega)
theorem totL_six : ∀ (ls : List LE), (∀ p ∈ ls, p.2.2.flatten.length = 5 ∧ p.1 ≠ -1) → totL ls = 6 * ls.length
  | [], _ => rfl
  | p :: ls, h => by
    have h1 := h p (by simp)
    have h2 := totL_six ls (fun q hq => h q (by simp [hq]))
    simp only [totL]
    rw [h1.1, if_neg h1.2, h2, List.length_cons]
    omega
theorem pt_live (h : PT w0 w t mb base me sb f fr sz rv es sf ssz iv il) (hel : es.length ≤ 500) {n : Nat} (hn : es.length = n) : Calls Try.prog 64 #[.pointer (some ⟨t, 0, none⟩)] w fun z w' => ∃ A c, z = .returned (.slice A (6 * n) c) ∧ Below w.heap.size w w' := by
  obtain ⟨ls, hll, hP⟩ := list_of es.length (fun i (q : LE) => ∃ p, es[i]? = some p ∧ q.1 = p.1 ∧ f p.1 = some q.2.1 ∧ q.2.1.e = p.2 ∧ ∃ l, q.2.2 = [l] ∧ l.length = 5 ∧ [l].length = q.2.1.bs.length ∧ q.2.1.bs.length ≤ 1000 ∧ ∀ (j b : Nat) (l' : List V), q.2.1.bs[j]? = some b → [l][j]? = some l' → ∀ w' : World, Below w.heap.size w w' → Calls Try.prog 26 #[ptr b] w' (Told w' l')) (fun i hi => by
    obtain ⟨p, hp⟩ : ∃ p, es[i]? = some p := ⟨_, List.getElem?_eq_getElem hi⟩
    obtain ⟨x, h1, h2, h3⟩ := h.run p (List.mem_of_getElem? hp)
    obtain ⟨l, c1, c2, c3, c4⟩ := told_one h h1 (by omega)
    exact ⟨(p.1, x, [l]), p, hp, rfl, h1, h2, l, rfl, c1, c2, c3, c4⟩)
  have hsix : totL ls = 6 * n := by
    rw [totL_six ls (fun q hq => ?_), hll, hn]
    obtain ⟨i, hi⟩ := List.mem_iff_getElem?.1 hq
    obtain ⟨p, hp, e1, e2, e3, l, e4, e5, _⟩ := hP i q hi
    have := h.rng p.1 _ e2
    exact ⟨by rw [e4]; simp [e5], by omega⟩
  refine live_any h.ts ((-1, mainE me, []) :: ls) (by simp [hll]) (fun i p hp => ?_) (N := 6 * n) (by simp only [totL]; rw [hsix]; simp) (by omega) (by simp; omega)
  match i with
  | 0 =>
    simp at hp; subst hp
    exact ⟨rfl, h.ts.main, rfl, by simp [mainE], fun j b l h1 => by simp [mainE] at h1⟩
  | i + 1 =>
    rw [List.getElem?_cons_succ] at hp
    obtain ⟨q, hq, e1, e2, e3, l, e4, e5, e6, e7, e8⟩ := hP i p hp
    refine ⟨by simp [hq, e3], by rw [e1]; exact h.ts.en q.1 _ e2, by rw [e4]; exact e6, e7, fun j b l' h1 h2 => ?_⟩
    rw [e4] at h2
    exact e8 j b l' h1 h2
theorem PT.regs {w : World} {b R : Nat} {rg : List V} {how gen : Int} (h : FrG w b R rg how gen) {i : Nat} {v : V} (hi : rg[i]? = some v) : w.cell? ⟨b, 7, none⟩ = some (.slice (some ⟨R, 0, none⟩) rg.length rg.length) ∧ w.cell? ⟨R, i * 3, none⟩ = some (.int .i64 v.k) ∧ w.cell? ⟨R, i * 3 + 1, none⟩ = some (.int .i64 v.n) ∧ w.cell? ⟨R, i * 3 + 2, none⟩ = some (.string v.s) := by
  obtain ⟨hR, fn, cl, se, pc, dst, ex, hb⟩ := h
  obtain ⟨v0, v1, v2⟩ := vcs_at hi
  exact ⟨hb.cell rfl, hR.cell v0, hR.cell v1, hR.cell v2⟩
end
end Go.Proofs.Ytpcamgjfikipgaa
