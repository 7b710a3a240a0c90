/- A slice of pairs of ints that came in, as the data that the walks speak of. No condition. -/
import Derived.Test.YtpcamgjfikipgaaOpenI
import Derived.Test.YtpcamgjfikipgaaPairs
namespace Go.Proofs.Ytpcamgjfikipgaa
open Go.RowKit Go.ChangeShapes Go.WideShapes Go.Deep Go.Joins
set_option linter.unusedVariables false
section
variable {H : Type} {enc : TypeId × Value → H} {w : World} {base : Nat} {spare : Nat → Bool} {held : Bool}
theorem trod_array2 {P : Program} {t e : TypeId} {fuel : Nat} {c0 c1 : Value} {x : DataW H × List MemPlace} (ht : P.underlying t = some (.array 2 e)) (hce : P.cellsOf e = 1)
    (h : DataW.trod enc P w base spare held fuel t [c0, c1] = some x) :
    ∃ y0 y1 n, DataW.trod enc P w base spare held n e [c0] = some y0 ∧ DataW.trod enc P w base spare held n e [c1] = some y1 := by
  cases fuel with
  | zero => simp [DataW.trod] at h
  | succ n =>
    unfold DataW.trod at h
    rw [ht] at h
    have r2 : List.range 2 = [0, 1] := rfl
    simp [r2, hce] at h
    obtain ⟨_, h⟩ := h
    cases h0 : DataW.trod enc P w base spare held n e [c0] with
    | none => simp [h0] at h
    | some y0 =>
      cases h1 : DataW.trod enc P w base spare held n e [c1] with
      | none => simp [h0, h1] at h
      | some y1 => exact ⟨y0, y1, n, h0, h1⟩
theorem pcs_of_at {w : World} {a : Addr} {ps : List (Int × Int)} (h : ∀ i x, ps[i]? = some x → w.cell? (a.add (i * 2)) = some (.int .i64 x.1) ∧ w.cell? (a.add (i * 2 + 1)) = some (.int .i64 x.2)) :
    ∀ j u, (pcs ps)[j]? = some u → w.cell? (a.add j) = some u := by
  intro j u hu
  have hj : j < ps.length * 2 := by rw [← pcs_length]; exact (List.getElem?_eq_some_iff.1 hu).1
  have hq : ps[j / 2]? = some (ps[j / 2]'(by omega)) := List.getElem?_eq_getElem (by omega)
  obtain ⟨a0, a1⟩ := pcs_at hq
  obtain ⟨c0, c1⟩ := h _ _ hq
  have hm : j % 2 = 0 ∨ j % 2 = 1 := by omega
  rcases hm with hm | hm
  · have e : j = j / 2 * 2 := by omega
    rw [e] at hu ⊢; rw [a0] at hu; injection hu with hu; rw [← hu]; exact c0
  · have e : j = j / 2 * 2 + 1 := by omega
    rw [e] at hu ⊢; rw [a1] at hu; injection hu with hu; rw [← hu]; exact c1
set_option maxRecDepth 100000 in
theorem open_Ps {r : Reach} {b0 : Nat} {v : Value} {d : DataW H} {p : List MemPlace} (hv : Value.okWide Try.prog w r b0 83 v) (h : DataW.Trod enc Try.prog w base spare held 83 v d p) :
    ∃ A len cap ps, v = .slice A len cap ∧ Rd w A len 2 (pcs ps) ∧ len ≤ cap ∧ cap ≤ maxLen := by
  obtain ⟨a0, len, cap, rfl⟩ := okWide_slice Try.underlying83 hv
  obtain ⟨fuel, hf⟩ := h
  rcases open_slice Try.underlying83 hf with ⟨hcs, _⟩ | ⟨a, len', cap', m, n, D, Pl, hcs, hb, hl, hm, hmm, hx, hi⟩
  · simp [Value.cells] at hcs
    obtain ⟨rfl, rfl, rfl⟩ := hcs
    exact ⟨_, _, _, [], rfl, Rd.nil _ _ _, Nat.le_refl _, by unfold maxLen; omega⟩
  · simp [Value.cells] at hcs
    obtain ⟨rfl, rfl, rfl⟩ := hcs
    have hC : Try.prog.cellsOf 88 = 2 := by kernel_rfl
    have hlm : len ≤ m := by rw [hmm]; split <;> omega
    rw [hC] at hi
    obtain ⟨ps, hvl, hvp⟩ := list_of len (fun i (x : Int × Int) => w.cell? (a.add (i * 2)) = some (.int .i64 x.1) ∧ w.cell? (a.add (i * 2 + 1)) = some (.int .i64 x.2)) (fun i hil => by
      obtain ⟨cs', hc, ht⟩ := hi i (by omega)
      obtain ⟨_, hcl, hat⟩ := World.cells?_some hc
      match cs', hcl with
      | [c0, c1], _ =>
        obtain ⟨y0, y1, n', h0, h1⟩ := trod_array2 Try.underlying88 (by kernel_rfl) ht
        obtain ⟨a', e0, _, _⟩ := DataW.trod_int Try.underlying3 h0
        obtain ⟨b', e1, _, _⟩ := DataW.trod_int Try.underlying3 h1
        have e0 : c0 = .int .i64 a' := by simpa using e0
        have e1 : c1 = .int .i64 b' := by simpa using e1
        refine ⟨(a', b'), ?_, ?_⟩
        · have := hat (i := 0) (by omega); simpa [e0, Addr.add] using this
        · have := hat (i := 1) (by omega); rw [add_add] at this; simpa [e1] using this)
    refine ⟨_, _, _, ps, rfl, ⟨by rw [pcs_length, hvl], fun _ => ⟨a, rfl, pcs_of_at (fun i x hx => hvp i x hx)⟩⟩, hl, hm⟩
end
end Go.Proofs.Ytpcamgjfikipgaa
