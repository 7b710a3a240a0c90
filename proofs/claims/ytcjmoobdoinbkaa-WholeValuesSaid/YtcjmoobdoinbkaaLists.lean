/- The contracts of list.New, Len, Push, Slice and All. Condition: no more than some thousands of values. -/
import Derived.Test.YtcjmoobdoinbkaaAdds
namespace Go.Proofs.Ytcjmoobdoinbkaa
open Go.RowKit
set_option linter.unusedVariables false
/-- A list in the block g: its values are vs, in a row of the call's own. -/
structure Lst (w : World) (base g : Nat) (v : Value) (vs : List V) : Prop where
  blk : Blk w g 86 [v]
  own : OwnV w base v vs
  lo : base ≤ g
theorem Lst.below {w w' : World} {base g : Nat} {v : Value} {vs : List V} (h : Lst w base g v vs) (k : Below w.heap.size w w') : Lst w' base g v vs := ⟨h.blk.below k h.blk.lt, h.own.below k, h.lo⟩
theorem Lst.sl {w : World} {base g : Nat} {v : Value} {vs : List V} (h : Lst w base g v vs) : ∃ A c, v = .slice A vs.length c ∧ vs.length ≤ c ∧ RdV w A vs.length vs := h.own.rd
theorem own_ne {w : World} {base g : Nat} {v : Value} {vs : List V} {u : List Value} {t : TypeId} (ho : OwnV w base v vs) (hb : Blk w g t u) (ht : t ≠ 50) : v.ownBlock ≠ some g := fun e => by
  rcases ho.2 with ⟨rfl, _⟩ | ⟨g', cap, cur, rfl, hb', hg, _⟩
  · simp [Value.ownBlock] at e
  · simp [Value.ownBlock] at e
    subst e
    unfold Blk at hb
    rw [hg] at hb
    injection hb with hb
    injection hb with _ h2 _
    exact ht h2.symm
/-- What New leaves. -/
def Listed (w : World) (vs : List V) (e : Ending) (w' : World) : Prop := ∃ g v, e = .returned (.pointer (some ⟨g, 0, none⟩)) ∧ Lst w' w.heap.size g v vs ∧ Below w.heap.size w w'
theorem new_any {w : World} {A : Option Addr} {n c : Nat} {vs : List V} (hv : RdV w A n vs) (hn : n ≤ 100000) : Calls Try.prog 45 #[.slice A n c] w (Listed w vs) := by
  have HV := Lib.hid hv
  clear hv
  go_enter Try.func45, Try.ntmps45
  go_wp2_with (go_at_call 65; refine (clone_any HV.out hn).mono ?_; rintro e w1 ⟨v, rfl, ho, hb⟩; obtain ⟨A', c', rfl, _, _⟩ := ho.rd; have H1 := Lib.hid (And.intro ho hb); clear ho hb)
  go_ret
  exact ⟨w1.heap.size, _, rfl, ⟨Blk.new _ _ _, H1.out.1.below (below_alloc (Below.refl _ _) _), H1.out.2.size⟩, below_alloc H1.out.2 _⟩
theorem len_any {w : World} {g : Nat} {A : Option Addr} {n c : Nat} (hb : Blk w g 86 [.slice A n c]) : Calls Try.prog 46 #[.pointer (some ⟨g, 0, none⟩)] w fun e w' => e = .returned (.int .i64 (n : Int)) ∧ w = w' := by
  have c0 := hb.cell (i := 0) rfl
  clear hb
  go_enter Try.func46, Try.ntmps46
  go_wp2
  go_ret
  exact ⟨rfl, rfl⟩
theorem all_any {w : World} {g : Nat} {A : Option Addr} {n c : Nat} {vs : List V} (hb : Blk w g 86 [.slice A n c]) (hv : RdV w A n vs) (hn : n ≤ 100000) : Calls Try.prog 50 #[.pointer (some ⟨g, 0, none⟩)] w (Cloned w vs) := by
  have c0 := hb.cell (i := 0) rfl
  have HV := Lib.hid hv
  clear hb hv
  go_enter Try.func50, Try.ntmps50
  go_wp2_with (go_at_call 65; refine (clone_any HV.out hn).mono ?_; rintro e w1 ⟨v, rfl, ho, hb⟩; have H1 := Lib.hid (And.intro ho hb); clear ho hb)
  go_ret
  exact ⟨v, rfl, H1.out.1, H1.out.2⟩
/-- What Slice leaves. -/
def Cut (w : World) (vs : List V) (e : Ending) (w' : World) : Prop := ∃ g v, e = .returned (.tuple #[.pointer (some ⟨g, 0, none⟩), .int .i64 0]) ∧ Lst w' w.heap.size g v vs ∧ Below w.heap.size w w'
theorem piece_rd {w : World} {A : Option Addr} {n : Nat} {vs : List V} (hv : RdV w A n vs) {a b : Nat} (hab : a ≤ b) (hb : b ≤ n) (B : Option Addr) (hB : 0 < b - a → B = A.map (·.add (a * 3))) : RdV w B (b - a) ((vs.drop a).take (b - a)) := by
  have h := Rd.piece hv (k := a) (m := b - a) (by omega) B hB
  rw [vcs_drop, vcs_take] at h
  exact h
set_option maxRecDepth 100000 in
theorem slice_any {w : World} {g : Nat} {A : Option Addr} {n c a b : Nat} {vs : List V} (hb : Blk w g 86 [.slice A n c]) (hv : RdV w A n vs) (hn : n ≤ 100000) (hnc : n ≤ c) (hab : a ≤ b) (hbn : b ≤ n) :
    Calls Try.prog 49 #[.pointer (some ⟨g, 0, none⟩), .int .i64 (a : Int), .int .i64 (b : Int)] w (Cut w ((vs.drop a).take (b - a))) := by
  have c0 := hb.cell (i := 0) rfl
  have HV := Lib.hid (fun B => piece_rd hv hab hbn B)
  have z1 : (0 : Int) ≤ (a : Int) := by omega
  have z2 : (a : Int) ≤ (b : Int) := by omega
  have z3 : (b : Int) ≤ (n : Int) := by omega
  have z4 : (b : Int) ≤ (c : Int) := by omega
  have d1 : decide ((a : Int) < 0) = false := decide_eq_false (by omega)
  have d2 : decide ((b : Int) < 0) = false := decide_eq_false (by omega)
  have d3 : decide ((b : Int) < (a : Int)) = false := decide_eq_false (by omega)
  have d4 : decide ((n : Int) < (b : Int)) = false := decide_eq_false (by omega)
  clear hb hv
  go_enter Try.func49, Try.ntmps49
  go_wp2_with (go_at_call 45; refine (new_any (HV.out _ (fun h => by first | rfl | (exfalso; omega))) (by omega)).mono ?_; rintro e w1 ⟨g1, v, rfl, hl, hb⟩; have H1 := Lib.hid (And.intro hl hb); clear hl hb)
  all_goals refine bodyPost_ret (v := .tuple #[.pointer (some ⟨g1, 0, none⟩), .int .i64 0]) (by simp [results, Try.results49, go_sem]) rfl ⟨g1, v, rfl, H1.out.1, H1.out.2⟩
theorem own_sl {w : World} {base : Nat} {e : TypeId} {size : Nat} {v : Value} {n : Nat} {xs : List Value} (h : w.ownsRow base e size v n xs) : ∃ A c, v = .slice A n c := by
  rcases h.2 with ⟨h1, h2⟩ | ⟨g, cap, cur, h1, _⟩
  · exact ⟨none, 0, by rw [h1, h2]⟩
  · exact ⟨_, cap, h1⟩
/-- What Push leaves. -/
def Pushed (w : World) (base g : Nat) (v : Value) (vs : List V) (x : V) (e : Ending) (w' : World) : Prop := ∃ v', e = .returned (.int .i64 0) ∧ Lst w' base g v' (vs ++ [x]) ∧ Kp (fun b => b = g ∨ v.ownBlock = some b) w w'
set_option maxRecDepth 100000 in
theorem push_any {w : World} {base g B : Nat} {v : Value} {vs : List V} {x : V} (h : Lst w base g v vs) (hb : Blk w B 50 x.cs) (hn : vs.length ≤ 100000) (hB : base ≤ w.heap.size) :
    Calls Try.prog 47 #[.pointer (some ⟨g, 0, none⟩), .slice (some ⟨B, 0, none⟩) 1 1] w (Pushed w base g v vs x) := by
  obtain ⟨i0, hi, hz0, hz1, hz2⟩ := info_parts info50
  have HI := Lib.hid (And.intro hi (And.intro hz0 (And.intro hz1 hz2)))
  obtain ⟨A, c, rfl, hc, _⟩ := h.sl
  obtain ⟨n, hl⟩ : ∃ n, vs.length = n := ⟨_, rfl⟩
  have c0 := h.blk.cell (i := 0) rfl
  have f0 := h.blk.frozen 0
  rw [hl] at c0 h hc
  have H := Lib.hid h
  have HL := Lib.hid hl
  have HBB := Lib.hid hb
  have q2 : IntKind.i64.wrap (1048576 - (n : Int)) = 1048576 - (n : Int) := IntWalk.i64_in _ (by omega)
  have q1 : decide (1048576 - (n : Int) < 1) = false := decide_eq_false (by omega)
  have ho : w.ownsRow base 50 3 (.slice A n c) n (vcs vs) := by have := h.own; unfold OwnV at this; rw [hl] at this; exact this
  have hrx : Rd w (some ⟨B, 0, none⟩) 1 3 x.cs := Rd.of_blk hb rfl
  have hx1 : ∀ u ∈ x.cs, u.oneCell' = true := by intro u hu; simp [V.cs] at hu; rcases hu with rfl | rfl | rfl <;> rfl
  have HO := Lib.hid (And.intro ho (And.intro hrx hx1))
  have hn2 : n ≤ 100000 := by omega
  clear hi hz0 hz1 hz2 h hb hl ho hrx hx1
  go_enter Try.func47, Try.ntmps47
  go_wp2_with (at_builtin; refine wpList_append_rd rfl base (.tmp 18) (.tmp 19) 61 rfl 50 i0 _ 3 32 Try.underlying61 HI.out.1 HI.out.2.1 HI.out.2.2.1 HI.out.2.2.2 rfl (by omega) (.slice A n c) n (vcs vs) (by rfl) (by exact HO.out.1) (some ⟨B, 0, none⟩) 1 1 x.cs (by rfl) (by exact HO.out.2.1) HO.out.2.2 (by unfold maxLen; omega) (by omega) hB ?_; intro v7 w7 hown7 hg7 hat7; obtain ⟨A7, c7, rfl⟩ := own_sl hown7; have hB7 : Blk w7 g 86 [.slice A n c] := H.out.blk.kp (S := fun b => (Value.slice A n c).ownBlock = some b) (Kp.of_grown hg7 (fun _ e => e)) (own_ne H.out.own H.out.blk (by decide)); have g0 := hB7.cell (i := 0) rfl; have g1 := hB7.frozen 0; have H7 := Lib.hid (And.intro hown7 (And.intro hg7 hB7)); clear hown7 hg7 hat7 hB7)
  go_ret
  obtain ⟨ho7, hg7, hB7⟩ := H7.out
  have ho8 : OwnV w7 base (.slice A7 (n + 1) c7) (vs ++ [x]) := by
    unfold OwnV
    rw [List.length_append, HL.out, vcs_append]
    simpa [vcs] using ho7
  rw [HL.out]
  refine ⟨.slice A7 (n + 1) c7, rfl, ⟨hB7.set_ 0 _, ho8.kp (S := fun b => b = g) (Kp.setCell (S := fun b => b = g) (Kp.refl _ w7) (p := ⟨g, 0, none⟩) (.inr rfl) _) (fun q hq (e : q = g) => own_ne ho8 hB7 (by decide) (e ▸ hq)), H.out.lo⟩, ?_⟩
  exact (Kp.of_grown (S := fun b => b = g ∨ (Value.slice A n c).ownBlock = some b) hg7 (fun q hq => .inr hq)).setCell (.inr (.inl rfl)) _
end Go.Proofs.Ytcjmoobdoinbkaa
