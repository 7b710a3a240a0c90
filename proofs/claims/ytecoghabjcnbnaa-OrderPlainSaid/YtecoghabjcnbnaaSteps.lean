/- One step of a sort on lists, how long it goes on at most, and Tell's contract by it. Condition: no more than some thousands of values. -/
import Derived.Test.YtecoghabjcnbnaaTell
namespace Go.Proofs.Ytecoghabjcnbnaa
open Go.RowKit
set_option linter.unusedVariables false
def exch (vs : List V) (J : Nat) : List V := match vs[J]?, vs[J + 1]? with | some x, some y => swp vs J x y | _, _ => vs
abbrev S3 := List V × Nat × Nat
/-- What Tell makes of a state. -/
def tellS (c : Int) (s : S3) : S3 :=
  if s.2.1 < s.1.length then (if 0 < c then (if s.2.2 - 1 = 0 then (exch s.1 (s.2.2 - 1), s.2.1 + 1, s.2.1 + 1) else (exch s.1 (s.2.2 - 1), s.2.1, s.2.2 - 1)) else (s.1, s.2.1 + 1, s.2.1 + 1)) else s
def OkS (s : S3) : Prop := 1 ≤ s.2.2 ∧ s.2.2 ≤ s.2.1
theorem exch_len (vs : List V) (J : Nat) : (exch vs J).length = vs.length := by
  unfold exch swp
  split <;> simp
theorem tellS_len (c : Int) (s : S3) : (tellS c s).1.length = s.1.length := by
  unfold tellS
  split
  · split
    · split <;> exact exch_len _ _
    · rfl
  · rfl
theorem tellS_ok {c : Int} {s : S3} (h : OkS s) : OkS (tellS c s) := by
  obtain ⟨h1, h2⟩ := h
  unfold tellS OkS
  split
  · split
    · split
      · simp
      · simp only; omega
    · simp
  · exact ⟨h1, h2⟩
/-- How many steps are left at most behind place i. -/
def rest (n i : Nat) : Nat := match n with | 0 => 0 | n + 1 => rest n i + (if i < n then n else 0)
theorem rest_le (n i : Nat) (h : n ≤ i + 1) : rest n i = 0 := by
  induction n with
  | zero => rfl
  | succ n ih => unfold rest; rw [ih (by omega), if_neg (by omega)]
theorem rest_next (n i : Nat) (h : i + 1 < n) : rest n i = (i + 1) + rest n (i + 1) := by
  induction n with
  | zero => omega
  | succ n ih =>
    unfold rest
    by_cases e : i + 1 < n
    · rw [ih e, if_pos (by omega), if_pos e]; omega
    · have hn : n = i + 1 := by omega
      subst hn
      rw [rest_le (i + 1) i (by omega), rest_le (i + 1) (i + 1) (by omega), if_pos (by omega), if_neg (by omega)]
      omega
theorem rest_sq (n i : Nat) : rest n i ≤ n * n := by
  induction n with
  | zero => simp [rest]
  | succ n ih => unfold rest; split <;> (rw [Nat.succ_mul, Nat.mul_succ]; omega)
def mu (s : S3) : Nat := if s.2.1 < s.1.length then s.2.2 + rest s.1.length s.2.1 else 0
theorem mu_pos {s : S3} (h : OkS s) (hi : s.2.1 < s.1.length) : 0 < mu s := by
  unfold mu; rw [if_pos hi]; have := h.1; omega
theorem mu_next (vs : List V) (i : Nat) (n : Nat) (hn : n = vs.length) (hi : i < n) (j : Nat) (hj : 1 ≤ j) : mu (vs, i + 1, i + 1) < j + rest n i := by
  unfold mu
  simp only
  rw [← hn]
  split
  · rename_i h
    rw [rest_next n i h]; omega
  · omega
theorem mu_down {c : Int} {s : S3} (h : OkS s) (hi : s.2.1 < s.1.length) : mu (tellS c s) < mu s := by
  obtain ⟨vs, i, j⟩ := s
  obtain ⟨h1, h2⟩ := h
  simp only at h1 h2 hi
  have hm : mu (vs, i, j) = j + rest vs.length i := by unfold mu; rw [if_pos hi]
  rw [hm]
  unfold tellS
  simp only
  rw [if_pos hi]
  split
  · split
    · exact mu_next _ i _ (exch_len _ _).symm hi j h1
    · rename_i h3
      unfold mu
      simp only
      rw [exch_len, if_pos hi]
      omega
  · exact mu_next _ i _ rfl hi j h1
theorem mu_start (vs : List V) : mu (vs, 1, 1) ≤ vs.length * vs.length + 1 := by
  have := rest_sq vs.length 1
  show (if 1 < vs.length then 1 + rest vs.length 1 else 0) ≤ _
  split <;> omega
/-- The two that are asked for. -/
theorem ask_two {vs : List V} {i j : Nat} (h : OkS (vs, i, j)) (hi : i < vs.length) : ∃ J x y, j = J + 1 ∧ vs[J]? = some x ∧ vs[J + 1]? = some y := by
  obtain ⟨h1, h2⟩ := h
  simp only at h1 h2
  exact ⟨j - 1, vs[j - 1]'(by omega), vs[j - 1 + 1]'(by omega), by omega, List.getElem?_eq_getElem (by omega), List.getElem?_eq_getElem (by omega)⟩
theorem tell_any {w : World} {base g : Nat} {v : Value} {vs : List V} {i j : Nat} (h : Srt w base g v vs i j) (ho : OkS (vs, i, j)) (hn : vs.length ≤ 10000) (hi3 : i ≤ 10001) (c : Int) :
    Calls Try.prog 11 #[ptr g, .int .i64 c] w (Telld w base g v (tellS c (vs, i, j)).1 (tellS c (vs, i, j)).2.1 (tellS c (vs, i, j)).2.2) := by
  by_cases hi : i < vs.length
  · obtain ⟨J, x, y, rfl, hx, hy⟩ := ask_two ho hi
    have he : exch vs J = swp vs J x y := by unfold exch; rw [hx, hy]
    by_cases hc : 0 < c
    · by_cases hJ : J = 0
      · have e : tellS c (vs, i, J + 1) = (swp vs J x y, i + 1, i + 1) := by
          unfold tellS; simp only; rw [if_pos hi, if_pos hc, if_pos (by omega), show J + 1 - 1 = J from rfl, he]
        rw [e]
        exact tell_swap0 h hi hx hy (by omega) c hc hJ
      · have e : tellS c (vs, i, J + 1) = (swp vs J x y, i, J) := by
          unfold tellS; simp only; rw [if_pos hi, if_pos hc, if_neg (by omega), show J + 1 - 1 = J from rfl, he]
        rw [e]
        exact tell_swap h hi hx hy (by omega) c hc hJ
    · have e : tellS c (vs, i, J + 1) = (vs, i + 1, i + 1) := by unfold tellS; simp only; rw [if_pos hi, if_neg hc]
      rw [e]
      exact tell_stay h hi (by omega) c (by omega)
  · have e : tellS c (vs, i, j) = (vs, i, j) := by unfold tellS; simp only; rw [if_neg hi]
    rw [e]
    refine (tell_none h (by omega) (by omega) c).mono ?_
    rintro e w' ⟨rfl, n, rfl⟩
    exact ⟨rfl, h.drewN n, (Kp.refl _ w).drewN n⟩
end Go.Proofs.Ytecoghabjcnbnaa
