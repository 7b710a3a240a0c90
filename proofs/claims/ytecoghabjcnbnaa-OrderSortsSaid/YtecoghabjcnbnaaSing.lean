/- What holds at each round of OrderSorts' sort. No condition. -/
import Derived.Test.YtecoghabjcnbnaaTens
import Derived.Test.YtecoghabjcnbnaaVMap
import Derived.Test.YtecoghabjcnbnaaAsks
namespace Go.Proofs.Ytecoghabjcnbnaa
open Go.RowKit
set_option linter.unusedVariables false
structure Sing (wb wr : World) (g : Nat) (v : Value) (n : Nat) (vs : List V) (r : Nat) (s : S3) : Prop where
  srt : Srt wr wb.heap.size g v s.1 s.2.1 s.2.2
  ok : OkS s
  len : s.1.length = n
  le : s.2.1 ≤ n + 1
  mem : ∀ z, z ∈ s.1 ↔ z ∈ vs
  adj : Adj (fun x y => KT x ≤ KT y) s
  stab : Stab KT s.1
  mu : mu s + r ≤ n * n + 1
  bel : Below wb.heap.size wb wr
  glo : wb.heap.size ≤ g
theorem Sing.start {wb wr : World} {g : Nat} {v : Value} {n : Nat} {vs : List V} (h : Srt wr wb.heap.size g v vs 1 1) (hl : vs.length = n) (hs : Stab KT vs) (hb : Below wb.heap.size wb wr) (hg : wb.heap.size ≤ g) : Sing wb wr g v n vs 0 (vs, 1, 1) :=
  ⟨h, ⟨Nat.le_refl _, Nat.le_refl _⟩, hl, by simp, fun _ => Iff.rfl, Adj.start _ vs, hs, by have := mu_start vs; rw [hl] at this; exact this, hb, hg⟩
theorem Sing.below {wb wr wx : World} {g : Nat} {v : Value} {n : Nat} {vs : List V} {r : Nat} {s : S3} (h : Sing wb wr g v n vs r s) (hb : Below wr.heap.size wr wx) : Sing wb wx g v n vs r s :=
  ⟨h.srt.below hb, h.ok, h.len, h.le, h.mem, h.adj, h.stab, h.mu, h.bel.trans (hb.mono h.bel.size), h.glo⟩
theorem Sing.next {wb wx w6 : World} {g : Nat} {v : Value} {n : Nat} {vs us : List V} {r i J : Nat} {x y : V} (h : Sing wb wx g v n vs r (us, i, J + 1)) (hi : i < us.length) (hx : us[J]? = some x) (hy : us[J + 1]? = some y) {c : Int} (hc : c = KT x - KT y)
    (hs : Srt w6 wb.heap.size g v (tellS c (us, i, J + 1)).1 (tellS c (us, i, J + 1)).2.1 (tellS c (us, i, J + 1)).2.2) (hk : Kp (fun b => b = g ∨ v.ownBlock = some b) wx w6) :
    Sing wb w6 g v n vs (r + 1) (tellS c (us, i, J + 1)) := by
  refine ⟨hs, tellS_ok h.ok, by rw [tellS_len]; exact h.len, ?_, fun z => (tellS_mem z).trans (h.mem z), h.adj.tell h.ok hi hx hy (fun e => by show KT x ≤ KT y; omega) (fun e => by show KT y ≤ KT x; omega), h.stab.tell hi hx hy (fun e => by omega), ?_, kp_below h.bel hk (fun b hb e => ?_), h.glo⟩
  · have := tellS_i c (us, i, J + 1) (by have := h.le; have := h.len; simp only at *; omega)
    have e := h.len
    simp only at e
    simp only [e] at this
    exact this
  · have h1 := mu_down (c := c) h.ok hi
    have h2 := h.mu
    omega
  · rcases e with e | e
    · have := h.glo; omega
    · have := (h.srt.own.lo e).1; omega
/-- At the end: they rise. -/
theorem Sing.rise {wb wr : World} {g : Nat} {v : Value} {n : Nat} {vs us : List V} {r i j : Nat} (h : Sing wb wr g v n vs r (us, i, j)) (hi : n ≤ i) {p q : Nat} {x y : V} (hpq : p < q) (hx : us[p]? = some x) (hy : us[q]? = some y) : x.n < y.n ∧ KT x ≤ KT y := by
  have hl := h.len
  simp only at hl
  have e : p + 1 + (q - (p + 1)) = q := by omega
  have h1 := rises (K := KT) h.adj h.stab (by omega) KT_mono (p := p) (q - (p + 1)) x y hx (by rw [e]; exact hy)
  exact ⟨h1, KT_mono x y (by omega)⟩
/-- Is a number among the first? -/
def seenF (us : List V) : Int → Bool := fun j => us.any (fun x => x.n == j)
theorem seenF_next {us : List V} {p : Nat} {x : V} (hx : us[p]? = some x) : updB (seenF (us.take p)) x.n = seenF (us.take (p + 1)) := by
  funext j
  unfold updB seenF
  rw [List.take_add_one, hx]
  simp only [Option.toList, List.any_append, List.any_cons, List.any_nil, Bool.or_false]
  by_cases e : j = x.n
  · subst e; simp
  · rw [if_neg e]
    have : (x.n == j) = false := by simp; omega
    rw [this, Bool.or_false]
theorem seenF_new {us : List V} {p : Nat} {x : V} (h : ∀ q y, q < p → us[q]? = some y → y.n < x.n) : seenF (us.take p) x.n = false := by
  unfold seenF
  rw [List.any_eq_false]
  intro y hy
  obtain ⟨q, hq⟩ := List.mem_iff_getElem?.1 hy
  rw [List.getElem?_take] at hq
  split at hq
  · have := h q y (by assumption) hq
    simp; omega
  · cases hq
theorem seenF_in {us : List V} {x : V} (h : x ∈ us) : seenF us x.n = true := by
  unfold seenF
  rw [List.any_eq_true]
  exact ⟨x, h, by simp⟩
end Go.Proofs.Ytecoghabjcnbnaa
