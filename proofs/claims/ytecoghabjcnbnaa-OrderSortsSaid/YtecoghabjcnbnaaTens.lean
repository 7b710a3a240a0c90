/- The contract of dreylaw19.tens: a number by the thousand, rounded down. Condition: no more than a million. -/
import Derived.Test.YtecoghabjcnbnaaCmp
import Derived.Test.YtecoghabjcnbnaaOrdered
namespace Go.Proofs.Ytecoghabjcnbnaa
open Go.RowKit
set_option linter.unusedVariables false
def tenI (n : Int) : Int := n / 1000
theorem td_neg (n : Int) (h : n < 0) : n.tdiv 1000 = - ((-n) / 1000) := by
  have e : n = -(-n) := by omega
  conv => lhs; rw [e]
  rw [Int.neg_tdiv, Int.tdiv_eq_ediv_of_nonneg (by omega)]
theorem tm_neg (n : Int) (h : n < 0) : n.tmod 1000 = - ((-n) % 1000) := by
  have e : n = -(-n) := by omega
  conv => lhs; rw [e]
  rw [Int.neg_tmod, Int.tmod_eq_emod_of_nonneg (by omega)]
theorem tens_any (n : Int) (h1 : -1000000 ≤ n) (h2 : n ≤ 1000000) (w : World) : Calls Try.prog 12 #[(V.int n).agg] w fun e w' => e = .returned (.int .i64 (tenI n)) ∧ w' = w.alloc (.cells #[.int .i64 2, .int .i64 n, .string ⟨#[]⟩] 26) := by
  by_cases h : n < 0
  · have q : decide (n < 0) = true := decide_eq_true h
    have hd := td_neg n h
    have hm := tm_neg n h
    have hk : (1000 : Int) ≠ 0 := by decide
    have hk2 : IntKind.i64.wrap (n.tdiv 1000) = - ((-n) / 1000) := by rw [hd]; exact IntWalk.i64_in _ (by omega)
    have hk3 : IntKind.i64.wrap (n.tmod 1000) = - ((-n) % 1000) := by rw [hm]; exact IntWalk.i64_in _ (by omega)
    unfold V.agg V.int
    by_cases hz : (-n) % 1000 = 0
    · have ht : tenI n = - ((-n) / 1000) := by unfold tenI; omega
      rw [ht]
      go_enter Try.func12, Try.ntmps12
      go_wp2
      go_ret
      exact ⟨rfl, rfl⟩
    · have ht : tenI n = - ((-n) / 1000) - 1 := by unfold tenI; omega
      rw [ht]
      have hz2 : - ((-n) % 1000) ≠ 0 := by omega
      have hz3 : (- ((-n) % 1000) != 0) = true := by simpa using hz2
      have hk4 : IntKind.i64.wrap (- ((-n) / 1000) - 1) = - ((-n) / 1000) - 1 := IntWalk.i64_in _ (by omega)
      go_enter Try.func12, Try.ntmps12
      go_wp2
      go_ret
      exact ⟨rfl, rfl⟩
  · have q : decide (n < 0) = false := decide_eq_false h
    have hd : n.tdiv 1000 = n / 1000 := Int.tdiv_eq_ediv_of_nonneg (by omega)
    unfold V.agg V.int tenI
    go_enter Try.func12, Try.ntmps12
    go_wp2
    go_ret
    exact ⟨rfl, rfl⟩
/-- The numbers by their tens, and where they stood. -/
def ents (cs : List Int) : List V := cs.mapIdx fun i c => V.int (c.tmod 10 * 1000 + i)
def KT (x : V) : Int := tenI x.n
theorem KT_mono (x y : V) (h : x.n ≤ y.n) : KT x ≤ KT y := by unfold KT tenI; omega
theorem ents_len (cs : List Int) : (ents cs).length = cs.length := by simp [ents]
theorem ents_at {cs : List Int} {i : Nat} {c : Int} (h : cs[i]? = some c) : (ents cs)[i]? = some (V.int (c.tmod 10 * 1000 + i)) := by simp [ents, h]
theorem ents_of {cs : List Int} {i : Nat} {x : V} (h : (ents cs)[i]? = some x) : ∃ c, cs[i]? = some c ∧ x = V.int (c.tmod 10 * 1000 + i) := by
  unfold ents at h
  rw [List.getElem?_mapIdx] at h
  cases hc : cs[i]? with
  | none => rw [hc] at h; cases h
  | some c => rw [hc] at h; injection h with h; exact ⟨c, rfl, h.symm⟩
theorem tm10 (c : Int) : -9 ≤ c.tmod 10 ∧ c.tmod 10 ≤ 9 := by
  rcases Int.lt_or_le c 0 with h | h
  · have e : c.tmod 10 = - ((-c) % 10) := by
      have e : c = -(-c) := by omega
      conv => lhs; rw [e]
      rw [Int.neg_tmod, Int.tmod_eq_emod_of_nonneg (by omega)]
    omega
  · rw [Int.tmod_eq_emod_of_nonneg h]; omega
theorem ents_int (cs : List Int) (h : cs.length ≤ 80) : ∀ x ∈ ents cs, x = V.int x.n ∧ -100000 ≤ x.n ∧ x.n ≤ 100000 := by
  intro x hx
  obtain ⟨i, hi⟩ := List.mem_iff_getElem?.1 hx
  obtain ⟨c, hc, rfl⟩ := ents_of hi
  have hl := (List.getElem?_eq_some_iff.1 hc).1
  have h2 := tm10 c
  refine ⟨rfl, ?_, ?_⟩ <;> (show _ ≤ _; simp only [V.int]; omega)
theorem ents_ten {c : Int} {i : Nat} (h : i < 80) : KT (V.int (c.tmod 10 * 1000 + i)) = c.tmod 10 := by
  unfold KT tenI V.int
  simp only
  omega
theorem ents_stab (cs : List Int) (h : cs.length ≤ 80) : Stab KT (ents cs) := by
  intro p q x y hpq hx hy hK
  obtain ⟨c, hc, rfl⟩ := ents_of hx
  obtain ⟨d, hd, rfl⟩ := ents_of hy
  have l1 := (List.getElem?_eq_some_iff.1 hc).1
  have l2 := (List.getElem?_eq_some_iff.1 hd).1
  rw [ents_ten (by omega), ents_ten (by omega)] at hK
  show c.tmod 10 * 1000 + (p : Int) < d.tmod 10 * 1000 + (q : Int)
  omega
end Go.Proofs.Ytecoghabjcnbnaa
