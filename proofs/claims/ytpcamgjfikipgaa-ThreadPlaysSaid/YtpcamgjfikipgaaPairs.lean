/- Pairs of ints in a slice. No condition. -/
import Derived.Test.YtpcamgjfikipgaaVals
namespace Go.Proofs.Ytpcamgjfikipgaa
open Go.RowKit
set_option linter.unusedVariables false
def pcs (ps : List (Int × Int)) : List Value := ps.flatMap (fun p => [.int .i64 p.1, .int .i64 p.2])
theorem pcs_cons (p : Int × Int) (ps : List (Int × Int)) : pcs (p :: ps) = [.int .i64 p.1, .int .i64 p.2] ++ pcs ps := rfl
theorem pcs_length (ps : List (Int × Int)) : (pcs ps).length = ps.length * 2 := by
  induction ps with
  | nil => rfl
  | cons p ps ih => rw [pcs_cons, List.length_append, ih]; simp; omega
theorem pcs_at {ps : List (Int × Int)} {i : Nat} {p : Int × Int} (h : ps[i]? = some p) : (pcs ps)[i * 2]? = some (.int .i64 p.1) ∧ (pcs ps)[i * 2 + 1]? = some (.int .i64 p.2) := by
  induction ps generalizing i with
  | nil => simp at h
  | cons x ps ih =>
    rw [pcs_cons]
    cases i with
    | zero => simp at h; subst h; simp
    | succ i =>
      have := ih (i := i) (by simpa using h)
      have e : ∀ j, ([Value.int .i64 x.1, .int .i64 x.2] ++ pcs ps)[(i + 1) * 2 + j]? = (pcs ps)[i * 2 + j]? := fun j => by
        rw [List.getElem?_append_right (by simp; omega)]
        simp only [List.length_cons, List.length_nil]
        congr 1
        omega
      have e0 := e 0
      simp only [Nat.add_zero] at e0
      rw [e0, e 1]
      exact this
theorem RdP.at_ {w : World} {A : Option Addr} {n : Nat} {ps : List (Int × Int)} (h : Rd w A n 2 (pcs ps)) {i : Nat} (hi : i < n) :
    ∃ b o p, A = some ⟨b, o, none⟩ ∧ b < w.heap.size ∧ ps[i]? = some p ∧ w.cell? ⟨b, o + i * 2, none⟩ = some (.int .i64 p.1) ∧ w.cell? ⟨b, o + i * 2 + 1, none⟩ = some (.int .i64 p.2) := by
  have hl : ps.length = n := by have := h.1; rw [pcs_length] at this; omega
  have hv : ps[i]? = some (ps[i]'(by omega)) := List.getElem?_eq_getElem (by omega)
  obtain ⟨ad, rfl, hc⟩ := h.2 (fun e => by have := pcs_length ps; rw [e] at this; simp at this; omega)
  obtain ⟨h0, h1⟩ := pcs_at hv
  have c0 := hc _ _ (pcs_at (i := 0) (List.getElem?_eq_getElem (by omega))).1
  obtain ⟨b, o, sp⟩ := ad
  have hsp : sp = none := by simpa [Addr.add] using World.cell?_spot c0
  subst hsp
  refine ⟨b, o, _, rfl, by simpa [Addr.add] using World.block_lt_of_cell? w _ c0, hv, ?_, ?_⟩
  · have := hc _ _ h0; rwa [add_lit] at this
  · have := hc _ _ h1; rwa [add_lit, ← Nat.add_assoc] at this
end Go.Proofs.Ytpcamgjfikipgaa
