/- Arguments opened: a value by value, a slice of values, and a slice of structs of four ints, as the data that the walks speak of. No condition. -/
import Derived.Test.YtpcamgjfikipgaaVals
import Derived.ProofKit
import Derived.OpenShut
import Derived.Below
import Derived.Lib.SmallJoins
import Derived.Deep.Slices
import Derived.Deep.Fields
import Derived.ChangeSame
namespace Go.Proofs.Ytpcamgjfikipgaa
open Go.RowKit Go.ChangeShapes Go.WideShapes Go.Deep Go.Joins
set_option linter.unusedVariables false
section
variable {H : Type} {enc : TypeId × Value → H} {w : World} {base : Nat} {spare : Nat → Bool} {held : Bool}
theorem laidOut : laidOutB Try.prog = true := by kernel_rfl
/-- A value's cells, out of the reading of its three fields. -/
theorem V_of_fields {n : Nat} {v0 v1 v2 : Value} {y0 y1 y2 : DataW H × List MemPlace} (h0 : DataW.trod enc Try.prog w base spare held n 3 [v0] = some y0) (h1 : DataW.trod enc Try.prog w base spare held n 2 [v1] = some y1) (h2 : DataW.trod enc Try.prog w base spare held n 9 [v2] = some y2) :
    ∃ x : V, v0 = .int .i64 x.k ∧ v1 = .int .i64 x.n ∧ v2 = .string x.s ∧ (Lit.int .i64 x.k).wf = true ∧ (Lit.int .i64 x.n).wf = true ∧ x.s.size ≤ maxLen := by
  obtain ⟨a, e0, _, w0⟩ := DataW.trod_int Try.underlying3 h0
  obtain ⟨b, e1, _, w1⟩ := DataW.trod_int Try.underlying2 h1
  obtain ⟨s, e2, _, hs⟩ := DataW.trod_string Try.underlying9 h2
  exact ⟨⟨a, b, s⟩, by simpa using e0, by simpa using e1, by simpa using e2, w0, w1, hs⟩
set_option maxRecDepth 100000 in
theorem open_V {r : Reach} {b0 : Nat} {v : Value} {d : DataW H} {p : List MemPlace} (hv : Value.okWide Try.prog w r b0 25 v) (h : DataW.Trod enc Try.prog w base spare held 25 v d p) :
    ∃ x : V, v = x.agg ∧ (Lit.int .i64 x.k).wf = true ∧ (Lit.int .i64 x.n).wf = true ∧ x.s.size ≤ maxLen := by
  obtain ⟨v0, v1, v2, y0, y1, y2, n, rfl, _, _, h0, h1, h2⟩ := open_agg3 Try.underlying25 (by kernel_rfl) (by kernel_rfl) hv h
  obtain ⟨x, rfl, rfl, rfl, a, b, c⟩ := V_of_fields h0 h1 h2
  exact ⟨x, rfl, a, b, c⟩
/-- For every i below n there is one: so there is a list of them. -/
theorem list_of {α : Type} (n : Nat) (P : Nat → α → Prop) (h : ∀ i, i < n → ∃ x, P i x) : ∃ l : List α, l.length = n ∧ ∀ i x, l[i]? = some x → P i x := by
  induction n with
  | zero => exact ⟨[], rfl, fun i x h => by simp at h⟩
  | succ n ih =>
    obtain ⟨l, hl, hp⟩ := ih (fun i hi => h i (by omega))
    obtain ⟨x, hx⟩ := h n (by omega)
    refine ⟨l ++ [x], by simp [hl], fun i y hy => ?_⟩
    by_cases hi : i < n
    · exact hp i y (by rwa [List.getElem?_append_left (by omega)] at hy)
    · have e : i = n := by
        have := (List.getElem?_eq_some_iff.1 hy).1
        simp at this; omega
      subst e
      rw [List.getElem?_append_right (by omega), hl, Nat.sub_self] at hy
      simp at hy
      subst hy
      exact hx
theorem vcs_of_at {w : World} {a : Addr} {vs : List V} (h : ∀ i x, vs[i]? = some x → w.cell? (a.add (i * 3)) = some (.int .i64 x.k) ∧ w.cell? (a.add (i * 3 + 1)) = some (.int .i64 x.n) ∧ w.cell? (a.add (i * 3 + 2)) = some (.string x.s)) :
    ∀ j u, (vcs vs)[j]? = some u → w.cell? (a.add j) = some u := by
  intro j u hu
  have hj : j < vs.length * 3 := by rw [← vcs_length]; exact (List.getElem?_eq_some_iff.1 hu).1
  have hq : vs[j / 3]? = some (vs[j / 3]'(by omega)) := List.getElem?_eq_getElem (by omega)
  obtain ⟨a0, a1, a2⟩ := vcs_at hq
  obtain ⟨c0, c1, c2⟩ := h _ _ hq
  have hm : j % 3 = 0 ∨ j % 3 = 1 ∨ j % 3 = 2 := by omega
  rcases hm with hm | hm | hm
  · have e : j = j / 3 * 3 := by omega
    rw [e] at hu ⊢; rw [a0] at hu; injection hu with hu; rw [← hu]; exact c0
  · have e : j = j / 3 * 3 + 1 := by omega
    rw [e] at hu ⊢; rw [a1] at hu; injection hu with hu; rw [← hu]; exact c1
  · have e : j = j / 3 * 3 + 2 := by omega
    rw [e] at hu ⊢; rw [a2] at hu; injection hu with hu; rw [← hu]; exact c2
/-- What is known of a value that came in. -/
def V.ok (x : V) : Prop := (Lit.int .i64 x.k).wf = true ∧ (Lit.int .i64 x.n).wf = true ∧ x.s.size ≤ maxLen
set_option maxRecDepth 100000 in
theorem open_Vs {r : Reach} {b0 : Nat} {v : Value} {d : DataW H} {p : List MemPlace} (hv : Value.okWide Try.prog w r b0 23 v) (h : DataW.Trod enc Try.prog w base spare held 23 v d p) :
    ∃ A len cap vs, v = .slice A len cap ∧ RdV w A len vs ∧ len ≤ cap ∧ cap ≤ maxLen ∧ ∀ x ∈ vs, x.ok := by
  obtain ⟨a0, len, cap, rfl⟩ := okWide_slice Try.underlying23 hv
  obtain ⟨fuel, hf⟩ := h
  rcases open_slice Try.underlying23 hf with ⟨hcs, _⟩ | ⟨a, len', cap', m, n, D, Pl, hcs, hb, hl, hm, hmm, hx, hi⟩
  · simp [Value.cells] at hcs
    obtain ⟨rfl, rfl, rfl⟩ := hcs
    exact ⟨_, _, _, [], rfl, Rd.nil _ _ _, Nat.le_refl _, by unfold maxLen; omega, fun x hx => by simp at hx⟩
  · simp [Value.cells] at hcs
    obtain ⟨rfl, rfl, rfl⟩ := hcs
    have hC : Try.prog.cellsOf 25 = 3 := by kernel_rfl
    have hlm : len ≤ m := by rw [hmm]; split <;> omega
    rw [hC] at hi
    obtain ⟨vs, hvl, hvp⟩ := list_of len (fun i x => (w.cell? (a.add (i * 3)) = some (.int .i64 x.k) ∧ w.cell? (a.add (i * 3 + 1)) = some (.int .i64 x.n) ∧ w.cell? (a.add (i * 3 + 2)) = some (.string x.s)) ∧ V.ok x) (fun i hil => by
      obtain ⟨cs', hc, ht⟩ := hi i (by omega)
      obtain ⟨_, hcl, hat⟩ := World.cells?_some hc
      match cs', hcl with
      | [c0, c1, c2], _ =>
        obtain ⟨y0, y1, y2, n', _, _, h0, h1, h2⟩ := trod_struct3 Try.underlying25 ht
        have k3 : Try.prog.cellsOf 3 = 1 := by kernel_rfl
        have k2 : Try.prog.cellsOf 2 = 1 := by kernel_rfl
        have k9 : Try.prog.cellsOf 9 = 1 := by kernel_rfl
        simp only [k3, k2, k9] at h0 h1 h2
        obtain ⟨x, e0, e1, e2, wa, wb, wc⟩ := V_of_fields (by simpa using h0) (by simpa using h1) (by simpa using h2)
        refine ⟨x, ⟨?_, ?_, ?_⟩, wa, wb, wc⟩
        · have := hat (i := 0) (by omega); simpa [e0, Addr.add] using this
        · have := hat (i := 1) (by omega); rw [add_add] at this; simpa [e1] using this
        · have := hat (i := 2) (by omega); rw [add_add] at this; simpa [e2] using this)
    refine ⟨_, _, _, vs, rfl, ⟨by rw [vcs_length, hvl], fun _ => ⟨a, rfl, vcs_of_at (fun i x hx => (hvp i x hx).1)⟩⟩, hl, hm, fun x hx => ?_⟩
    obtain ⟨i, hi'⟩ := List.getElem?_of_mem hx
    exact (hvp i x hi').2
end
end Go.Proofs.Ytpcamgjfikipgaa
