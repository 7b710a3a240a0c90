/- The sum of a sort's values, and that no step changes it. No condition. -/
import Derived.Test.YtecoghabjcnbnaaHead
namespace Go.Proofs.Ytecoghabjcnbnaa
open Go.RowKit
set_option linter.unusedVariables false
def tot : List V → Int
  | [] => 0
  | x :: xs => x.n + tot xs
theorem tot_append (a b : List V) : tot (a ++ b) = tot a + tot b := by
  induction a with
  | nil => simp [tot]
  | cons x a ih => simp only [List.cons_append, tot, ih]; omega
theorem tot_take {us : List V} {k : Nat} {x : V} (h : us[k]? = some x) : tot (us.take (k + 1)) = tot (us.take k) + x.n := by
  rw [List.take_add_one, h, tot_append]
  simp [tot]
theorem tot_swp {us : List V} {J : Nat} {x y : V} (hx : us[J]? = some x) (hy : us[J + 1]? = some y) : tot (swp us J x y) = tot us := by
  induction us generalizing J with
  | nil => simp at hx
  | cons a us ih =>
    cases J with
    | zero =>
      cases us with
      | nil => simp at hy
      | cons b us =>
        simp at hx hy
        subst hx hy
        simp only [swp, List.set_cons_zero, List.set_cons_succ, tot]
        omega
    | succ J =>
      have h2 := ih (J := J) (by simpa using hx) (by simpa using hy)
      unfold swp at h2 ⊢
      simp only [List.set_cons_succ, tot, h2]
theorem tot_exch (us : List V) (J : Nat) : tot (exch us J) = tot us := by
  unfold exch
  split
  · rename_i hx hy
    exact tot_swp hx hy
  · rfl
theorem tot_tellS (c : Int) (s : S3) : tot (tellS c s).1 = tot s.1 := by
  unfold tellS
  split
  · split
    · split <;> exact tot_exch _ _
    · rfl
  · rfl
/-- Where the rounds have ended. -/
theorem mu_ended {s : S3} (h : OkS s) (hm : mu s = 0) : s.1.length ≤ s.2.1 := by
  by_cases hi : s.2.1 < s.1.length
  · have := mu_pos h hi; omega
  · omega
theorem wrap_add (a b : Int) : wrap64 (wrap64 a + b) = wrap64 (a + b) := by unfold wrap64; omega
/-- What holds at each round's head of the great loop. -/
structure Whl (w w1 wr : World) (g G : Nat) (v : Value) (n : Nat) (vs : List V) (A : Option Addr) (L : Int) (k : Nat) (s : S3) : Prop where
  srt : Srt wr w1.heap.size g v s.1 s.2.1 s.2.2
  ok : OkS s
  len : s.1.length = n
  le : s.2.1 ≤ n + 1
  ints : Ints s.1
  tots : tot s.1 = tot vs
  blk : Blk wr G 42 (fcs (-1) V.null V.null (.slice none 0 0) 0 0 0 V.null (ptr g) (-1))
  far : ¬ (G = g ∨ v.ownBlock = some G)
  src : RdV wr A n vs
  bel : Below w.heap.size w wr
  low : w.heap.size ≤ w1.heap.size
  lt : ∀ ad, A = some ad → ad.block < w1.heap.size
  glo : w1.heap.size ≤ g
  run : L ≤ 0 → (mu s + k ≤ n * n + 1 ∧ ∃ m, iterI m (vs, 1, 1) = s)
theorem Whl.below {w w1 wr wx : World} {g G : Nat} {v : Value} {n : Nat} {vs : List V} {A : Option Addr} {L : Int} {k : Nat} {s : S3} (h : Whl w w1 wr g G v n vs A L k s) (hb : Below wr.heap.size wr wx) : Whl w w1 wx g G v n vs A L k s :=
  ⟨h.srt.below hb, h.ok, h.len, h.le, h.ints, h.tots, h.blk.below hb h.blk.lt, h.far, Rd.below h.src hb, h.bel.trans (hb.mono h.bel.size), h.low, h.lt, h.glo, h.run⟩
theorem Whl.next {w w1 wr w6 : World} {g G : Nat} {v : Value} {n : Nat} {vs : List V} {A : Option Addr} {L : Int} {k : Nat} {s : S3} (h : Whl w w1 wr g G v n vs A L k s) (hk : Kp (fun b => b = g ∨ v.ownBlock = some b) wr w6) (c : Int)
    (hs : Srt w6 w1.heap.size g v (tellS c s).1 (tellS c s).2.1 (tellS c s).2.2) (hi : s.2.1 < s.1.length) (hr : L ≤ 0 → tellS c s = stepI s) : Whl w w1 w6 g G v n vs A L (k + 1) (tellS c s) := by
  have hle := tellS_i c s (by rw [h.len]; exact h.le)
  rw [h.len] at hle
  have hlo : ∀ b, (b = g ∨ v.ownBlock = some b) → w1.heap.size ≤ b := fun b e => e.elim (fun e => by rw [e]; exact h.glo) (fun e => (h.srt.own.lo e).1)
  refine ⟨hs, tellS_ok h.ok, by rw [tellS_len]; exact h.len, hle, tellS_ints h.ints, (tot_tellS c s).trans h.tots, h.blk.kp hk h.far, h.far, Rd.kp h.src hk (fun ad e hS => ?_), kp_below h.bel hk (fun b hb hS => ?_), h.low, h.lt, h.glo, fun hL => ?_⟩
  · have := h.lt ad e
    have := hlo _ hS
    omega
  · have := hlo _ hS
    have := h.low
    omega
  · obtain ⟨hm, m, e⟩ := h.run hL
    have hd := mu_down (c := c) h.ok hi
    refine ⟨by omega, m + 1, ?_⟩
    show stepI (iterI m (vs, 1, 1)) = _
    rw [e, hr hL]
theorem stepI_two {us : List V} {i J : Nat} {a b : Int} (hx : us[J]? = some (V.int a)) (hy : us[J + 1]? = some (V.int b)) : tellS (cmpI a b) (us, i, J + 1) = stepI (us, i, J + 1) := by
  unfold stepI
  simp only [Nat.add_sub_cancel]
  rw [hx, hy]
  rfl
end Go.Proofs.Ytecoghabjcnbnaa
