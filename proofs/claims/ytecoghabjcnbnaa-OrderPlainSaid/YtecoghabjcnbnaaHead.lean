/- dreylaw19's head 'sorts' returns true, and leaves what was there as it was. No condition. -/
import Derived.Test.YtecoghabjcnbnaaPlain
namespace Go.Proofs.Ytecoghabjcnbnaa
open Go.RowKit
set_option linter.unusedVariables false
theorem stepI_done {s : S3} (h : s.1.length ≤ s.2.1) : stepI s = s := by
  unfold stepI
  split
  · unfold tellS; rw [if_neg (by omega)]
  · rfl
theorem iterI_add (k m : Nat) (s : S3) (h : (iterI k s).1.length ≤ (iterI k s).2.1) : iterI (k + m) s = iterI k s := by
  induction m with
  | zero => rfl
  | succ m ih =>
    show stepI (iterI (k + m) s) = _
    rw [ih, stepI_done h]
theorem iterI_eq {k m : Nat} {s : S3} (hk : (iterI k s).1.length ≤ (iterI k s).2.1) (hm : (iterI m s).1.length ≤ (iterI m s).2.1) : iterI k s = iterI m s := by
  rcases Nat.le_total k m with h | h
  · obtain ⟨d, rfl⟩ := Nat.exists_eq_add_of_le h
    rw [iterI_add k d s hk]
  · obtain ⟨d, rfl⟩ := Nat.exists_eq_add_of_le h
    rw [iterI_add m d s hm]
theorem iter_123 : iterI 4 ([V.int 3, V.int 1, V.int 2], 1, 1) = ([V.int 1, V.int 2, V.int 3], 3, 3) := by rfl
def L123 : List V := [V.int 1, V.int 2, V.int 3]
theorem plain_123 {w : World} {A : Option Addr} {c : Nat} (hv : RdV w A 3 [V.int 3, V.int 1, V.int 2]) : Calls Try.prog 18 #[.slice A 3 c] w fun e w' => ∃ v, e = .returned (.tuple #[v, .int .i64 0]) ∧ OwnV w' w.heap.size v L123 ∧ Below w.heap.size w w' := by
  refine (plain_any hv (by omega) (by intro x hx; simp at hx; rcases hx with rfl | rfl | rfl <;> rfl)).mono ?_
  rintro e w' ⟨v, s, k, rfl, ho, hk, hi, _, _, hb⟩
  refine ⟨v, rfl, ?_, hb⟩
  have h1 := iterI_eq (k := k) (m := 4) (s := ([V.int 3, V.int 1, V.int 2], 1, 1)) (by rw [hk]; exact hi) (by rw [iter_123]; decide)
  rw [hk, iter_123] at h1
  rw [h1] at ho
  exact ho
theorem tell_21 : tellS 1 ([V.int 2, V.int 1], 1, 1) = ([V.int 1, V.int 2], 2, 2) := by rfl
theorem plain_123' {w : World} {A : Option Addr} {c : Nat} (hv : RdV w A 3 [V.int 3, V.int 1, V.int 2]) : Calls Try.prog 18 #[.slice A 3 c] w fun e w' => ∃ b o c', e = .returned (.tuple #[.slice (some ⟨b, o, none⟩) 3 c', .int .i64 0]) ∧ b < w'.heap.size ∧ w'.cell? ⟨b, o + 0 * 3 + 1, none⟩ = some (.int .i64 1) ∧ w'.cell? ⟨b, o + 2 * 3 + 1, none⟩ = some (.int .i64 3) ∧ Below w.heap.size w w' := by
  refine (plain_123 hv).mono ?_
  rintro e w' ⟨v, rfl, ho, hb⟩
  obtain ⟨A1, c1, rfl, _, hr⟩ := ho.rd
  obtain ⟨b, o, x, rfl, hlt, hx, _, x1, _⟩ := hr.at_ (i := 0) (by decide)
  obtain ⟨b', o', y, hA, _, hy, _, y1, _⟩ := hr.at_ (i := 2) (by decide)
  injection hA with hA
  injection hA with h1 h2
  subst h1 h2
  obtain rfl : V.int 1 = x := by simpa [L123] using hx
  obtain rfl : V.int 3 = y := by simpa [L123] using hy
  exact ⟨b, o, c1, rfl, hlt, x1, y1, hb⟩
theorem c_pair1 {w : World} {base g : Nat} {v : Value} (h : Srt w base g v [V.int 2, V.int 1] 1 1) : Calls Try.prog 10 #[.pointer (some ⟨g, 0, none⟩)] w fun e w' => e = .returned (.tuple #[(V.int 2).agg, (V.int 1).agg, .bool true]) ∧ Below w.heap.size w w' :=
  pair_some (j := 0) (i := 1) h (by decide) rfl rfl (by decide)
theorem c_pair2 {w : World} {base g : Nat} {v : Value} (h : Srt w base g v [V.int 1, V.int 2] 2 2) : Calls Try.prog 10 #[.pointer (some ⟨g, 0, none⟩)] w fun e w' => e = .returned (.tuple #[V.null.agg, V.null.agg, .bool false]) ∧ Below w.heap.size w w' :=
  pair_none (j := 2) (i := 2) h (by decide) (by decide)
theorem c_tell {w : World} {base g : Nat} {v : Value} (h : Srt w base g v [V.int 2, V.int 1] 1 1) : Calls Try.prog 11 #[.pointer (some ⟨g, 0, none⟩), .int .i64 1] w fun e w' => e = .returned (.tuple #[]) ∧ Srt w' base g v [V.int 1, V.int 2] 2 2 ∧ Kp (fun b => b = g ∨ v.ownBlock = some b) w w' := by
  have h2 := tell_any (i := 1) (j := 1) h ⟨by decide, by decide⟩ (by decide) (by decide) 1
  rw [tell_21] at h2
  exact h2
theorem values_12 {w : World} {base g : Nat} {v : Value} (h : Srt w base g v [V.int 1, V.int 2] 2 2) : Calls Try.prog 13 #[.pointer (some ⟨g, 0, none⟩)] w fun e w' => ∃ b o c', e = .returned (.slice (some ⟨b, o, none⟩) 2 c') ∧ w'.cell? ⟨b, o + 0 * 3 + 1, none⟩ = some (.int .i64 1) ∧ Below w.heap.size w w' := by
  refine (sort_values h (by decide)).mono ?_
  rintro e w' ⟨v, rfl, ho, hb⟩
  obtain ⟨A1, c1, rfl, _, hr⟩ := ho.rd
  obtain ⟨b, o, x, rfl, hlt, hx, _, x1, _⟩ := hr.at_ (i := 0) (by decide)
  obtain rfl : V.int 1 = x := by simpa using hx
  exact ⟨b, o, c1, rfl, x1, hb⟩
set_option maxRecDepth 100000 in
set_option maxHeartbeats 8000000 in
theorem sorts_any (w : World) : Calls Try.prog 7 #[] w fun e w' => e = .returned (.bool true) ∧ Below w.heap.size w w' := by
  go_enter Try.func7, Try.ntmps7
  go_upto_region 8 with (first
    | (go_at_call 8; refine (int_any _ _).mono ?_; rintro e w' ⟨rfl, rfl⟩; unfold V.agg V.int)
    | (go_at_call 18; refine (plain_123' (by exact Rd.of_blk (Blk.made (by simp) 26 (vcs [V.int 3, V.int 1, V.int 2])) rfl)).mono ?_; rintro e w1 ⟨b1, o1, c1, rfl, hlt1, l0, l2, hb1⟩; have HB1 := Lib.hid hb1; clear hb1)
    | (go_at_call 9; refine (order_new (vs := [V.int 2, V.int 1]) (by exact Rd.of_blk (Blk.made (by simp) 26 (vcs [V.int 2, V.int 1])) rfl) (by omega)).mono ?_; rintro e w2 ⟨g, v2, rfl, hg, hs, hb2⟩; have H2 := Lib.hid (And.intro hs (And.intro hb2 hg)); have hnn := fun W => run_eql_ptr_nil (P := Try.prog) W (tp := 28) ⟨g, 0, none⟩ Try.underlying28; clear hs hb2 hg; unfold ptr)
    | (go_at_call 10; (with_reducible refine (c_pair1 H2.out.1).mono ?_); rintro e w3 ⟨rfl, hb3⟩; have HB3 := Lib.hid hb3; clear hb3; unfold V.agg V.int)
    | (go_at_call 11; refine (c_tell (((H2.out.1.below HB3.out).alloc _).alloc _)).mono ?_; rintro e w4 ⟨rfl, hs4, hk4⟩; have H4 := Lib.hid (And.intro hs4 hk4); clear hs4 hk4)
    | (go_at_call 10; (with_reducible refine (c_pair2 H4.out.1).mono ?_); rintro e w5 ⟨rfl, hb5⟩; have HB5 := Lib.hid hb5; clear hb5; unfold V.agg V.null))
  obtain ⟨hs2, hb2, hg2⟩ := H2.out
  obtain ⟨hs4, hk4⟩ := H4.out
  have z2 := hb2.size
  have z3 := HB3.out.size
  have z4 := hk4.size
  have z5 := HB5.out.size
  have zg := hs2.blk.lt
  have zo : ∀ b, v2.ownBlock = some b → w1.heap.size + 3 ≤ b ∧ b < w2.heap.size := fun b e => by have := hs2.own.lo e; simp at this; omega
  simp only [World.size_alloc] at z2 z4 hg2
  have b12 : Below w1.heap.size w1 w2 := (below_alloc (below_alloc (below_alloc (Below.refl _ _) _) _) _).trans (hb2.mono (by simp; omega))
  have b13 := b12.trans (HB3.out.mono b12.size)
  have b13' := below_alloc (below_alloc b13 (.cells #[.int .i64 2, .int .i64 2, .string ⟨#[]⟩] 26)) (.cells #[.int .i64 2, .int .i64 1, .string ⟨#[]⟩] 26)
  have b14 := kp_below b13' hk4 (fun b hb hS => by rcases hS with e | e; omega; have := zo b e; omega)
  have b15 := b14.trans (HB5.out.mono b14.size)
  have b18 := below_alloc (below_alloc b15 (.cells #[.int .i64 0, .int .i64 0, .string ⟨#[]⟩] 26)) (.cells #[.int .i64 0, .int .i64 0, .string ⟨#[]⟩] 26)
  have e0 := (b18.cell (p := ⟨b1, o1 + 0 * 3 + 1, none⟩) hlt1).trans l0
  have e2 := (b18.cell (p := ⟨b1, o1 + 2 * 3 + 1, none⟩) hlt1).trans l2
  have B4 : Blk ((w3.alloc (.cells #[.int .i64 2, .int .i64 2, .string ⟨#[]⟩] 26)).alloc (.cells #[.int .i64 2, .int .i64 1, .string ⟨#[]⟩] 26)) w3.heap.size 26 [.int .i64 2, .int .i64 2, .string ⟨#[]⟩] := (Blk.made rfl 26 [.int .i64 2, .int .i64 2, .string ⟨#[]⟩]).alloc _
  have B5 : Blk ((w3.alloc (.cells #[.int .i64 2, .int .i64 2, .string ⟨#[]⟩] 26)).alloc (.cells #[.int .i64 2, .int .i64 1, .string ⟨#[]⟩] 26)) (w3.heap.size + 1) 26 [.int .i64 2, .int .i64 1, .string ⟨#[]⟩] := Blk.made (by simp) 26 [.int .i64 2, .int .i64 1, .string ⟨#[]⟩]
  have C4 := (((B4.kp hk4 (fun hS => by rcases hS with e | e; omega; have := zo _ e; omega)).below HB5.out (by omega)).alloc (.cells #[.int .i64 0, .int .i64 0, .string ⟨#[]⟩] 26)).alloc (.cells #[.int .i64 0, .int .i64 0, .string ⟨#[]⟩] 26)
  have C5 := (((B5.kp hk4 (fun hS => by rcases hS with e | e; omega; have := zo _ e; omega)).below HB5.out (by omega)).alloc (.cells #[.int .i64 0, .int .i64 0, .string ⟨#[]⟩] 26)).alloc (.cells #[.int .i64 0, .int .i64 0, .string ⟨#[]⟩] 26)
  have e4 := C4.cell (i := 1) (v := .int .i64 2) rfl
  have e5 := C5.cell (i := 1) (v := .int .i64 1) rfl
  have HBT := Lib.hid b18
  clear hs2 hb2 hg2 hs4 hk4 z2 z3 z4 z5 zg zo b12 b13 b13' b14 b15 b18 B4 B5 C4 C5 l0 l2
  go_wp2_with (go_at_call 13; refine (values_12 (((H4.out.1.below HB5.out).alloc _).alloc _)).mono ?_; rintro e w6 ⟨b6, o6, c6, rfl, l6, hb6⟩; have HB6 := Lib.hid hb6; clear hb6)
  go_ret
  have bA : Below w.heap.size w w1 := (below_alloc (below_alloc (below_alloc (below_alloc (Below.refl _ _) _) _) _) _).trans (HB1.out.mono (by simp; omega))
  have bB := bA.trans (HBT.out.mono bA.size)
  exact ⟨rfl, bB.trans (HB6.out.mono bB.size)⟩
end Go.Proofs.Ytecoghabjcnbnaa
