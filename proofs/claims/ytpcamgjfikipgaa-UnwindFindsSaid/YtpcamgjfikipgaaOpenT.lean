/- A slice of code.Try that came in, as the data that the walks speak of. No condition. -/
import Derived.Test.YtpcamgjfikipgaaOpenI
import Derived.Test.YtpcamgjfikipgaaTries
namespace Go.Proofs.Ytpcamgjfikipgaa
open Go.RowKit Go.ChangeShapes Go.WideShapes Go.Deep Go.Joins
set_option linter.unusedVariables false
section
variable {H : Type} {enc : TypeId × Value → H} {w : World} {base : Nat} {spare : Nat → Bool} {held : Bool}
theorem tcs_of_at {w : World} {a : Addr} {ts : List TryD} (h : ∀ i x, ts[i]? = some x → w.cell? (a.add (i * 4)) = some (.int .i64 x.fr) ∧ w.cell? (a.add (i * 4 + 1)) = some (.int .i64 x.up) ∧ w.cell? (a.add (i * 4 + 2)) = some (.int .i64 x.tg) ∧ w.cell? (a.add (i * 4 + 3)) = some (.int .i64 x.rg)) :
    ∀ j u, (tcs ts)[j]? = some u → w.cell? (a.add j) = some u := by
  intro j u hu
  have hj : j < ts.length * 4 := by rw [← tcs_length]; exact (List.getElem?_eq_some_iff.1 hu).1
  have hq : ts[j / 4]? = some (ts[j / 4]'(by omega)) := List.getElem?_eq_getElem (by omega)
  obtain ⟨a0, a1, a2, a3⟩ := tcs_at hq
  obtain ⟨c0, c1, c2, c3⟩ := h _ _ hq
  have hm : j % 4 = 0 ∨ j % 4 = 1 ∨ j % 4 = 2 ∨ j % 4 = 3 := by omega
  rcases hm with hm | hm | hm | hm
  · have e : j = j / 4 * 4 := by omega
    rw [e] at hu ⊢; rw [a0] at hu; injection hu with hu; rw [← hu]; exact c0
  · have e : j = j / 4 * 4 + 1 := by omega
    rw [e] at hu ⊢; rw [a1] at hu; injection hu with hu; rw [← hu]; exact c1
  · have e : j = j / 4 * 4 + 2 := by omega
    rw [e] at hu ⊢; rw [a2] at hu; injection hu with hu; rw [← hu]; exact c2
  · have e : j = j / 4 * 4 + 3 := by omega
    rw [e] at hu ⊢; rw [a3] at hu; injection hu with hu; rw [← hu]; exact c3
set_option maxRecDepth 100000 in
theorem open_Ts {r : Reach} {b0 : Nat} {v : Value} {d : DataW H} {p : List MemPlace} (hv : Value.okWide Try.prog w r b0 31 v) (h : DataW.Trod enc Try.prog w base spare held 31 v d p) :
    ∃ A len cap ts, v = .slice A len cap ∧ RdT w A len ts ∧ len ≤ cap ∧ cap ≤ maxLen := by
  obtain ⟨a0, len, cap, rfl⟩ := okWide_slice Try.underlying31 hv
  obtain ⟨fuel, hf⟩ := h
  rcases open_slice Try.underlying31 hf with ⟨hcs, _⟩ | ⟨a, len', cap', m, n, D, Pl, hcs, hb, hl, hm, hmm, hx, hi⟩
  · simp [Value.cells] at hcs
    obtain ⟨rfl, rfl, rfl⟩ := hcs
    exact ⟨_, _, _, [], rfl, Rd.nil _ _ _, Nat.le_refl _, by unfold maxLen; omega⟩
  · simp [Value.cells] at hcs
    obtain ⟨rfl, rfl, rfl⟩ := hcs
    have hC : Try.prog.cellsOf 57 = 4 := by kernel_rfl
    have hlm : len ≤ m := by rw [hmm]; split <;> omega
    rw [hC] at hi
    obtain ⟨ts, hvl, hvp⟩ := list_of len (fun i (x : TryD) => w.cell? (a.add (i * 4)) = some (.int .i64 x.fr) ∧ w.cell? (a.add (i * 4 + 1)) = some (.int .i64 x.up) ∧ w.cell? (a.add (i * 4 + 2)) = some (.int .i64 x.tg) ∧ w.cell? (a.add (i * 4 + 3)) = some (.int .i64 x.rg)) (fun i hil => by
      obtain ⟨cs', hc, ht⟩ := hi i (by omega)
      obtain ⟨_, hcl, hat⟩ := World.cells?_some hc
      match cs', hcl with
      | [c0, c1, c2, c3], _ =>
        obtain ⟨y0, y1, y2, y3, n', _, _, h0, h1, h2, h3⟩ := trod_struct4 Try.underlying57 ht
        have k3 : Try.prog.cellsOf 3 = 1 := by kernel_rfl
        simp only [k3] at h0 h1 h2 h3
        obtain ⟨a', e0, _, _⟩ := DataW.trod_int Try.underlying3 (by simpa using h0)
        obtain ⟨b', e1, _, _⟩ := DataW.trod_int Try.underlying3 (by simpa using h1)
        obtain ⟨c', e2, _, _⟩ := DataW.trod_int Try.underlying3 (by simpa using h2)
        obtain ⟨d', e3, _, _⟩ := DataW.trod_int Try.underlying3 (by simpa using h3)
        have e0 : c0 = .int .i64 a' := by simpa using e0
        have e1 : c1 = .int .i64 b' := by simpa using e1
        have e2 : c2 = .int .i64 c' := by simpa using e2
        have e3 : c3 = .int .i64 d' := by simpa using e3
        refine ⟨⟨a', b', c', d'⟩, ?_, ?_, ?_, ?_⟩
        · have := hat (i := 0) (by omega); simpa [e0, Addr.add] using this
        · have := hat (i := 1) (by omega); rw [add_add] at this; simpa [e1] using this
        · have := hat (i := 2) (by omega); rw [add_add] at this; simpa [e2] using this
        · have := hat (i := 3) (by omega); rw [add_add] at this; simpa [e3] using this)
    refine ⟨_, _, _, ts, rfl, ⟨by rw [tcs_length, hvl], fun _ => ⟨a, rfl, tcs_of_at (fun i x hx => hvp i x hx)⟩⟩, hl, hm⟩
end
end Go.Proofs.Ytpcamgjfikipgaa
