/- A slice of texts that came in, as the data that the walks speak of. No condition. -/
import Derived.Test.YtcjmoobdoinbkaaLib
import Derived.SliceStrings
import Derived.ProofKit
import Derived.OpenShut
import Derived.Below
import Derived.Lib.SmallJoins
import Derived.ChangeSame
namespace Go.Proofs.Ytcjmoobdoinbkaa
open Go.ChangeShapes Go.WideShapes Go.ChangeAt Go.RowKit
set_option linter.unusedVariables false
set_option maxRecDepth 100000 in
theorem open_Ss {H : Type} {enc : TypeId × Value → H} {w : World} {base : Nat} {spare : Nat → Bool} {held : Bool} {r : Reach} {b0 : Nat} {v : Value} {d : DataW H} {p : List MemPlace} (hv : Value.okWide Try.prog w r b0 45 v) (h : DataW.Trod enc Try.prog w base spare held 45 v d p) :
    ∃ (A : Option Addr) (len cap : Nat) (ss : List ByteArray), v = .slice A len cap ∧ Rd w A len 1 (ss.map Value.string) ∧ len ≤ cap ∧ cap ≤ maxLen := by
  obtain ⟨a0, len, cap, rfl⟩ := okWide_slice Try.underlying45 hv
  obtain ⟨fuel, hf⟩ := h
  rcases open_strings Try.underlying45 Try.underlying9 (by kernel_rfl) hf with ⟨hcs, _⟩ | ⟨a, l, c, zs, hcs, _, hl, hm, hz, _, hcell, hwz⟩
  · simp [Value.cells] at hcs
    obtain ⟨rfl, rfl, rfl⟩ := hcs
    exact ⟨_, _, _, [], rfl, Rd.nil _ _ _, Nat.le_refl _, by unfold maxLen; omega⟩
  · simp [Value.cells] at hcs
    obtain ⟨rfl, rfl, rfl⟩ := hcs
    have hzl : len ≤ zs.length := by rw [hz]; split <;> omega
    refine ⟨_, _, _, zs.take len, rfl, ⟨by simp; omega, fun _ => ⟨a, rfl, fun j u hu => ?_⟩⟩, hl, hm⟩
    have hj : j < len := by
      have := (List.getElem?_eq_some_iff.1 hu).1
      simp at this; omega
    rw [hcell j (by omega)]
    have hjz : j < zs.length := by omega
    simp [hj, hjz] at hu
    subst hu
    simp [List.getD, hjz]
end Go.Proofs.Ytcjmoobdoinbkaa
