/- What a sort step by step keeps and brings, on lists: neighbours in order, like ones as they stood, nothing lost. No condition. -/
import Derived.Test.YtecoghabjcnbnaaSteps
namespace Go.Proofs.Ytecoghabjcnbnaa
open Go.RowKit
set_option linter.unusedVariables false
theorem swp_get {vs : List V} {J : Nat} {x y : V} (hJ : J + 1 < vs.length) (q : Nat) : (swp vs J x y)[q]? = if q = J then some y else if q = J + 1 then some x else vs[q]? := by
  unfold swp
  by_cases h1 : q = J
  · subst h1
    rw [List.getElem?_set_ne (by omega), List.getElem?_set_self (by omega), if_pos rfl]
  · rw [if_neg h1]
    by_cases h2 : q = J + 1
    · subst h2
      rw [List.getElem?_set_self (by simp; omega), if_pos rfl]
    · rw [if_neg h2, List.getElem?_set_ne (by omega), List.getElem?_set_ne (by omega)]
theorem swp_mem {vs : List V} {J : Nat} {x y : V} (hx : vs[J]? = some x) (hy : vs[J + 1]? = some y) (z : V) : z ∈ swp vs J x y ↔ z ∈ vs := by
  have hJ := (List.getElem?_eq_some_iff.1 hy).1
  constructor
  · intro h
    obtain ⟨q, hq⟩ := List.mem_iff_getElem?.1 h
    rw [swp_get hJ] at hq
    split at hq
    · injection hq with hq; subst hq; exact List.mem_of_getElem? hy
    · split at hq
      · injection hq with hq; subst hq; exact List.mem_of_getElem? hx
      · exact List.mem_of_getElem? hq
  · intro h
    obtain ⟨q, hq⟩ := List.mem_iff_getElem?.1 h
    by_cases h1 : q = J
    · subst h1
      rw [hx] at hq; injection hq with hq; subst hq
      exact List.mem_of_getElem? (i := q + 1) (by rw [swp_get hJ, if_neg (by omega), if_pos rfl])
    · by_cases h2 : q = J + 1
      · subst h2
        rw [hy] at hq; injection hq with hq; subst hq
        exact List.mem_of_getElem? (i := J) (by rw [swp_get hJ, if_pos rfl])
      · exact List.mem_of_getElem? (i := q) (by rw [swp_get hJ, if_neg h1, if_neg h2]; exact hq)
/-- The three ways of a step. -/
theorem tellS_ways {c : Int} {vs : List V} {i J : Nat} {x y : V} (hi : i < vs.length) (hx : vs[J]? = some x) (hy : vs[J + 1]? = some y) :
    tellS c (vs, i, J + 1) = if 0 < c then (if J = 0 then (swp vs J x y, i + 1, i + 1) else (swp vs J x y, i, J)) else (vs, i + 1, i + 1) := by
  have he : exch vs J = swp vs J x y := by unfold exch; rw [hx, hy]
  unfold tellS
  simp only
  rw [if_pos hi, show J + 1 - 1 = J from rfl, he]
theorem tellS_mem {c : Int} {s : S3} (z : V) : z ∈ (tellS c s).1 ↔ z ∈ s.1 := by
  have he : z ∈ exch s.1 (s.2.2 - 1) ↔ z ∈ s.1 := by
    unfold exch
    split
    · rename_i x y hx hy; exact swp_mem hx hy z
    · exact Iff.rfl
  unfold tellS
  split
  · split
    · split <;> exact he
    · exact Iff.rfl
  · exact Iff.rfl
/-- Neighbours that are in order. -/
structure Adj (R : V → V → Prop) (s : S3) : Prop where
  near : ∀ p x y, p + 1 ≤ s.2.1 → p + 1 ≠ s.2.2 → s.1[p]? = some x → s.1[p + 1]? = some y → R x y
  skip : s.2.2 < s.2.1 → ∀ x z, s.1[s.2.2 - 1]? = some x → s.1[s.2.2 + 1]? = some z → R x z
  done : s.1.length ≤ s.2.1 → s.2.2 = s.2.1
theorem Adj.start (R : V → V → Prop) (vs : List V) : Adj R (vs, 1, 1) :=
  ⟨fun p x y h1 h2 _ _ => absurd h1 (by simp only at h1 h2 ⊢; omega), fun h => by simp at h, fun _ => rfl⟩
theorem Adj.tell {R : V → V → Prop} {c : Int} {vs : List V} {i J : Nat} {x y : V} (h : Adj R (vs, i, J + 1)) (ok : OkS (vs, i, J + 1)) (hi : i < vs.length) (hx : vs[J]? = some x) (hy : vs[J + 1]? = some y) (h1 : c ≤ 0 → R x y) (h2 : 0 < c → R y x) : Adj R (tellS c (vs, i, J + 1)) := by
  obtain ⟨a1, a2, a3⟩ := h
  obtain ⟨_, o2⟩ := ok
  simp only at a1 a2 a3 o2
  have hJ := (List.getElem?_eq_some_iff.1 hy).1
  rw [tellS_ways hi hx hy]
  by_cases hc : 0 < c
  · rw [if_pos hc]
    have hyx := h2 hc
    have key : ∀ p u v, p + 1 ≤ i → p + 1 ≠ J → (swp vs J x y)[p]? = some u → (swp vs J x y)[p + 1]? = some v → R u v := by
      intro p u v p1 p2 hu hv
      rw [swp_get hJ] at hu hv
      rw [if_neg p2] at hv
      by_cases e1 : p = J
      · subst e1
        rw [if_pos rfl] at hu hv
        injection hu with hu; injection hv with hv
        subst hu hv
        exact hyx
      · rw [if_neg (by omega)] at hv
        rw [if_neg e1] at hu
        by_cases e2 : p = J + 1
        · subst e2
          rw [if_pos rfl] at hu
          injection hu with hu
          subst hu
          exact a2 (by omega) _ _ hx hv
        · rw [if_neg e2] at hu
          exact a1 p u v p1 (by omega) hu hv
    by_cases h0 : J = 0
    · rw [if_pos h0]
      refine ⟨fun p u v p1 p2 hu hv => ?_, fun e => absurd e (Nat.lt_irrefl _), fun _ => rfl⟩
      simp only at p1 p2 hu hv
      exact key p u v (by omega) (by omega) hu hv
    · rw [if_neg h0]
      refine ⟨fun p u v p1 p2 hu hv => key p u v p1 p2 hu hv, fun e u v hu hv => ?_, fun e => ?_⟩
      · simp only at e hu hv
        rw [swp_get hJ] at hu hv
        rw [if_neg (by omega), if_pos rfl] at hv
        rw [if_neg (by omega), if_neg (by omega)] at hu
        injection hv with hv
        subst hv
        exact a1 (J - 1) _ _ (by omega) (by omega) hu (by rw [show J - 1 + 1 = J by omega]; exact hx)
      · simp only [swp, List.length_set] at e
        omega
  · rw [if_neg hc]
    refine ⟨fun p u v p1 p2 hu hv => ?_, fun e => absurd e (Nat.lt_irrefl _), fun _ => rfl⟩
    simp only at p1 p2 hu hv
    by_cases e1 : p = J
    · subst e1
      rw [hx] at hu; rw [hy] at hv
      injection hu with hu; injection hv with hv
      subst hu hv
      exact h1 (by omega)
    · exact a1 p u v (by omega) (by omega) hu hv
theorem Adj.ended {R : V → V → Prop} {vs : List V} {i j : Nat} (h : Adj R (vs, i, j)) (hi : vs.length ≤ i) {p : Nat} {x y : V} (hx : vs[p]? = some x) (hy : vs[p + 1]? = some y) : R x y := by
  have h1 := (List.getElem?_eq_some_iff.1 hy).1
  have h2 := h.done hi
  simp only at h2
  exact h.near p x y (by simp only; omega) (by simp only; omega) hx hy
/-- Like ones as they stood. -/
def Stab (K : V → Int) (vs : List V) : Prop := ∀ (p q : Nat) (x y : V), p < q → vs[p]? = some x → vs[q]? = some y → K x = K y → x.n < y.n
theorem Stab.tell {K : V → Int} {c : Int} {vs : List V} {i J : Nat} {x y : V} (h : Stab K vs) (hi : i < vs.length) (hx : vs[J]? = some x) (hy : vs[J + 1]? = some y) (hne : 0 < c → K x ≠ K y) : Stab K (tellS c (vs, i, J + 1)).1 := by
  have hJ := (List.getElem?_eq_some_iff.1 hy).1
  rw [tellS_ways hi hx hy]
  by_cases hc : 0 < c
  · have hxy := hne hc
    have key : Stab K (swp vs J x y) := by
      intro p q u v hpq hu hv huv
      rw [swp_get hJ] at hu hv
      by_cases p1 : p = J
      · subst p1
        rw [if_pos rfl] at hu
        injection hu with hu
        subst hu
        rw [if_neg (by omega)] at hv
        by_cases q1 : q = p + 1
        · subst q1
          rw [if_pos rfl] at hv
          injection hv with hv
          subst hv
          exact absurd huv.symm hxy
        · rw [if_neg q1] at hv
          exact h (p + 1) q _ _ (by omega) hy hv huv
      · rw [if_neg p1] at hu
        by_cases p2 : p = J + 1
        · subst p2
          rw [if_pos rfl] at hu
          injection hu with hu
          subst hu
          rw [if_neg (by omega), if_neg (by omega)] at hv
          exact h J q _ _ (by omega) hx hv huv
        · rw [if_neg p2] at hu
          by_cases q1 : q = J
          · subst q1
            rw [if_pos rfl] at hv
            injection hv with hv
            subst hv
            exact h p (q + 1) _ _ (by omega) hu hy huv
          · rw [if_neg q1] at hv
            by_cases q2 : q = J + 1
            · subst q2
              rw [if_pos rfl] at hv
              injection hv with hv
              subst hv
              exact h p J _ _ (by omega) hu hx huv
            · rw [if_neg q2] at hv
              exact h p q _ _ hpq hu hv huv
    rw [if_pos hc]
    split <;> exact key
  · rw [if_neg hc]
    exact h
/-- In order and like ones as they stood: they rise. -/
theorem rises {K : V → Int} {vs : List V} {i j : Nat} (hA : Adj (fun x y => K x ≤ K y) (vs, i, j)) (hS : Stab K vs) (hi : vs.length ≤ i) (hK : ∀ x y : V, x.n ≤ y.n → K x ≤ K y) {p : Nat} : ∀ (d : Nat) (x y : V), vs[p]? = some x → vs[p + 1 + d]? = some y → x.n < y.n := by
  have one : ∀ (q : Nat) (x y : V), vs[q]? = some x → vs[q + 1]? = some y → x.n < y.n := by
    intro q x y hx hy
    have h1 := hA.ended hi hx hy
    by_cases e : K x = K y
    · exact hS q (q + 1) x y (by omega) hx hy e
    · rcases Int.lt_or_le x.n y.n with h | h
      · exact h
      · have := hK y x h
        omega
  intro d
  induction d with
  | zero => intro x y hx hy; exact one p x y hx hy
  | succ d ih =>
    intro x y hx hy
    have hl := (List.getElem?_eq_some_iff.1 hy).1
    have hz : vs[p + 1 + d]? = some (vs[p + 1 + d]'(by omega)) := List.getElem?_eq_getElem (by omega)
    have h1 := ih x _ hx hz
    have h2 := one (p + 1 + d) _ y hz hy
    omega
end Go.Proofs.Ytecoghabjcnbnaa
