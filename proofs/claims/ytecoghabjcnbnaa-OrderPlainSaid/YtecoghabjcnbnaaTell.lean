/- The contract of (*order.Sort).Tell. Conditions: no more than some thousands of values; the places stand in the list. -/
import Derived.Test.YtecoghabjcnbnaaSorts
import Derived.StillTailTactics
namespace Go.Proofs.Ytecoghabjcnbnaa
open Go.RowKit
set_option linter.unusedVariables false
theorem vcs_set {vs : List V} {i : Nat} {x : V} (h : i < vs.length) : (((vcs vs).set (i * 3) (.int .i64 x.k)).set (i * 3 + 1) (.int .i64 x.n)).set (i * 3 + 2) (.string x.s) = vcs (vs.set i x) := by
  induction vs generalizing i with
  | nil => simp at h
  | cons y vs ih =>
    cases i with
    | zero => simp [vcs_cons, V.cs]
    | succ i =>
      rw [List.set_cons_succ, vcs_cons, vcs_cons, ← ih (by simpa using h)]
      have e : ∀ (l : List Value) (k : Nat) (u : Value), (y.cs ++ l).set ((i + 1) * 3 + k) u = y.cs ++ l.set (i * 3 + k) u := fun l k u => by
        rw [List.set_append_right _ _ (by simp [V.cs]; omega)]
        congr 2
        simp [V.cs]; omega
      have e0 := e (vcs vs) 0 (.int .i64 x.k)
      simp only [Nat.add_zero] at e0
      rw [e0, e, e]
theorem OwnV.put {w : World} {base g : Nat} {c : Nat} {vs : List V} {i : Nat} (h : OwnV w base (.slice (some ⟨g, 0, none⟩) vs.length c) vs) (x : V) (hi : i < vs.length) :
    OwnV (((w.setCell ⟨g, i * 3, none⟩ (.int .i64 x.k)).setCell ⟨g, i * 3 + 1, none⟩ (.int .i64 x.n)).setCell ⟨g, i * 3 + 2, none⟩ (.string x.s)) base (.slice (some ⟨g, 0, none⟩) vs.length c) (vs.set i x) := by
  have h1 := (((World.ownsRow.stored h (i * 3) (.int .i64 x.k)).1.stored (i * 3 + 1) (.int .i64 x.n)).1.stored (i * 3 + 2) (.string x.s)).1
  rw [vcs_set hi] at h1
  unfold OwnV
  rw [List.length_set]
  exact h1
theorem OwnV.frozen {w : World} {base g : Nat} {n c : Nat} {vs : List V} (h : OwnV w base (.slice (some ⟨g, 0, none⟩) n c) vs) (i : Nat) : w.frozen? ⟨g, i, none⟩ = false := by
  rcases h.2 with ⟨h0, _⟩ | ⟨g', cap, cur, e, _, hgg, _⟩
  · cases h0
  · injection e with e1
    injection e1 with e1
    injection e1 with e1
    subst e1
    simp [World.frozen?, hgg]
theorem OwnV.head {w : World} {base : Nat} {A : Option Addr} {n c : Nat} {vs : List V} (h : OwnV w base (.slice A n c) vs) (hn : 0 < vs.length) : ∃ g, A = some ⟨g, 0, none⟩ := by
  rcases h.2 with ⟨_, h1⟩ | ⟨g, cap, cur, e, _⟩
  · omega
  · injection e with e1
    exact ⟨g, e1⟩
set_option maxRecDepth 100000 in
theorem tell_none {w : World} {base g : Nat} {v : Value} {vs : List V} {i j : Nat} (h : Srt w base g v vs i j) (hi : vs.length ≤ i) (hi2 : i ≤ 100000) (c : Int) :
    Calls Try.prog 11 #[ptr g, .int .i64 c] w fun e w' => e = .returned (.tuple #[]) ∧ ∃ n, w' = w.drewN n := by
  obtain ⟨A, cp, rfl, _, hr⟩ := h.own.rd
  have c0 : w.cell? ⟨g, 0, none⟩ = some (.slice A vs.length cp) := h.blk.cell rfl
  have c1 : w.cell? ⟨g, 1, none⟩ = some (.int .i64 i) := h.blk.cell rfl
  have q : decide (vs.length ≤ i) = true := decide_eq_true hi
  clear h hr hi
  unfold ptr
  go_enter Try.func11, Try.ntmps11
  go_wp2
  go_quiet (fail)
  all_goals go_wp2
  refine bodyPost_ret (v := .tuple #[]) (by simp [results, Try.results11, go_sem]) rfl ⟨rfl, _, rfl⟩
/-- What a Tell leaves that turned something. -/
def Telld (w : World) (base g : Nat) (v : Value) (vs : List V) (i j : Nat) (e : Ending) (w' : World) : Prop :=
  e = .returned (.tuple #[]) ∧ Srt w' base g v vs i j ∧ Kp (fun b => b = g ∨ v.ownBlock = some b) w w'
set_option maxRecDepth 100000 in
set_option maxHeartbeats 4000000 in
theorem tell_stay {w : World} {base g : Nat} {v : Value} {vs : List V} {i j : Nat} (h : Srt w base g v vs i j) (hi : i < vs.length) (hi2 : vs.length ≤ 100000) (c : Int) (hc : c ≤ 0) :
    Calls Try.prog 11 #[ptr g, .int .i64 c] w (Telld w base g v vs (i + 1) (i + 1)) := by
  obtain ⟨A, cp, rfl, _, hr⟩ := h.own.rd
  have c0 : w.cell? ⟨g, 0, none⟩ = some (.slice A vs.length cp) := h.blk.cell rfl
  have c1 : w.cell? ⟨g, 1, none⟩ = some (.int .i64 i) := h.blk.cell rfl
  have c2 : w.cell? ⟨g, 2, none⟩ = some (.int .i64 j) := h.blk.cell rfl
  have f1 := h.blk.frozen 1
  have f2 := h.blk.frozen 2
  have q : decide (vs.length ≤ i) = false := decide_eq_false (by omega)
  have hi3 : i ≤ 100000 := by omega
  have q1 : decide (0 < c) = false := decide_eq_false (by omega)
  have q2 : decide (c ≤ 0) = true := decide_eq_true hc
  have HS := Lib.hid h
  clear h hr hi hc
  unfold ptr
  go_enter Try.func11, Try.ntmps11
  go_wp2
  go_quiet (fail)
  go_wp2
  go_end0
  refine ⟨rfl, ⟨((HS.out.blk.drewN _).set_ 1 _).set_ 2 _, ?_, HS.out.ne⟩, (((Kp.refl (fun b => b = g ∨ (Value.slice A vs.length cp).ownBlock = some b) w).drewN _).setCell (.inr (.inl rfl)) _).setCell (.inr (.inl rfl)) _⟩
  exact HS.out.own.kp ((((Kp.refl (fun b => b = g) w).drewN _).setCell (.inr rfl) _).setCell (.inr rfl) _) (fun b hb e => HS.out.ne (by rw [hb, e]))
/-- Two values behind each other, exchanged. -/
def swp (vs : List V) (j : Nat) (x y : V) : List V := (vs.set j y).set (j + 1) x
theorem Srt.set1 {w : World} {base g : Nat} {v : Value} {vs : List V} {i j : Int} (h : Srt w base g v vs i j) (k : Int) : Srt (w.setCell ⟨g, 1, none⟩ (.int .i64 k)) base g v vs k j :=
  ⟨h.blk.set_ 1 _, h.own.kp ((Kp.refl (fun b => b = g) w).setCell (.inr rfl) _) (fun b hb e => h.ne (by rw [hb, e])), h.ne⟩
theorem Srt.set2 {w : World} {base g : Nat} {v : Value} {vs : List V} {i j : Int} (h : Srt w base g v vs i j) (k : Int) : Srt (w.setCell ⟨g, 2, none⟩ (.int .i64 k)) base g v vs i k :=
  ⟨h.blk.set_ 2 _, h.own.kp ((Kp.refl (fun b => b = g) w).setCell (.inr rfl) _) (fun b hb e => h.ne (by rw [hb, e])), h.ne⟩
theorem Srt.drewN {w : World} {base g : Nat} {v : Value} {vs : List V} {i j : Int} (h : Srt w base g v vs i j) (n : Nat) : Srt (w.drewN n) base g v vs i j :=
  h.kp (S := fun _ => False) ((Kp.refl _ w).drewN n) id (fun _ _ => id)
theorem OwnV.len {w : World} {base : Nat} {v : Value} {vs vs' : List V} (h : OwnV w base v vs) (e : vs.length = vs'.length) (h2 : w.ownsRow base 26 3 v vs'.length (vcs vs) → w.ownsRow base 26 3 v vs'.length (vcs vs')) : OwnV w base v vs' := by
  unfold OwnV at h ⊢
  rw [e] at h
  exact h2 h
theorem swapped {w : World} {base g b J cp : Nat} {vs : List V} {i j : Int} (h : Srt w base g (.slice (some ⟨b, 0, none⟩) vs.length cp) vs i j) (hJ : J + 1 < vs.length) (x y : V) (hne : g ≠ b) :
    Srt ((((((w.setCell ⟨b, J * 3, none⟩ (.int .i64 y.k)).setCell ⟨b, J * 3 + 1, none⟩ (.int .i64 y.n)).setCell ⟨b, J * 3 + 2, none⟩ (.string y.s)).setCell ⟨b, (J + 1) * 3, none⟩ (.int .i64 x.k)).setCell ⟨b, (J + 1) * 3 + 1, none⟩ (.int .i64 x.n)).setCell ⟨b, (J + 1) * 3 + 2, none⟩ (.string x.s))
      base g (.slice (some ⟨b, 0, none⟩) vs.length cp) (swp vs J x y) i j := by
  have h1 := h.own.put y (show J < vs.length by omega)
  have h2 : OwnV (((w.setCell ⟨b, J * 3, none⟩ (.int .i64 y.k)).setCell ⟨b, J * 3 + 1, none⟩ (.int .i64 y.n)).setCell ⟨b, J * 3 + 2, none⟩ (.string y.s)) base (.slice (some ⟨b, 0, none⟩) (vs.set J y).length cp) (vs.set J y) := by rw [List.length_set]; exact h1
  have h3 := h2.put x (show J + 1 < (vs.set J y).length by rw [List.length_set]; exact hJ)
  rw [List.length_set] at h3
  exact ⟨(((((h.blk.far hne _).far hne _).far hne _).far hne _).far hne _).far hne _, h3, h.ne⟩
set_option maxRecDepth 100000 in
set_option maxHeartbeats 8000000 in
theorem tell_swap {w : World} {base g : Nat} {v : Value} {vs : List V} {i J : Nat} {x y : V} (h : Srt w base g v vs i ((J + 1 : Nat) : Int)) (hi : i < vs.length) (hx : vs[J]? = some x) (hy : vs[J + 1]? = some y) (hi2 : vs.length ≤ 100000) (c : Int) (hc : 0 < c) (hJ0 : J ≠ 0) :
    Calls Try.prog 11 #[ptr g, .int .i64 c] w (Telld w base g v (swp vs J x y) i J) := by
  have HS := Lib.hid h
  obtain ⟨A, cp, rfl, _, hr⟩ := h.own.rd
  have hj1 : J + 1 < vs.length := (List.getElem?_eq_some_iff.1 hy).1
  obtain ⟨b, rfl⟩ := h.own.head (by omega)
  obtain ⟨b1, o1, x', hA1, hb, hx', x0, x1, x2⟩ := hr.at_ (show J < vs.length by omega)
  obtain ⟨b2, o2, y', hA2, hb', hy', y0, y1, y2⟩ := hr.at_ hj1
  injection hA1 with hA1
  injection hA1 with hA11 hA12
  injection hA2 with hA2
  injection hA2 with hA21 hA22
  subst hA11 hA12 hA21 hA22
  rw [hx] at hx'
  rw [hy] at hy'
  injection hx' with hx'
  injection hy' with hy'
  subst hx' hy'
  have hne : g ≠ b := fun e => h.ne (by rw [e]; rfl)
  have c0 : w.cell? ⟨g, 0, none⟩ = some (.slice (some ⟨b, 0, none⟩) vs.length cp) := h.blk.cell rfl
  have c1 : w.cell? ⟨g, 1, none⟩ = some (.int .i64 i) := h.blk.cell rfl
  have c2 : w.cell? ⟨g, 2, none⟩ = some (.int .i64 ((J + 1 : Nat) : Int)) := h.blk.cell rfl
  have f1 := h.blk.frozen 1
  have f2 := h.blk.frozen 2
  have r0 := h.own.frozen (J * 3)
  have r1 := h.own.frozen (J * 3 + 1)
  have r2 := h.own.frozen (J * 3 + 2)
  have r3 := h.own.frozen ((J + 1) * 3)
  have r4 := h.own.frozen ((J + 1) * 3 + 1)
  have r5 := h.own.frozen ((J + 1) * 3 + 2)
  have q : decide (vs.length ≤ i) = false := decide_eq_false (by omega)
  have qc : decide (0 < c) = true := decide_eq_true hc
  have hi3 : i ≤ 100000 := by omega
  have qc2 : decide (c ≤ 0) = false := decide_eq_false (by omega)
  have q1 : IntKind.i64.wrap (((J + 1 : Nat) : Int) - 1) = ((J : Nat) : Int) := by rw [IntWalk.i64_in _ (by omega)]; omega
  have q2 : (0 : Int) ≤ ((J : Nat) : Int) := by omega
  have q3 : ((J : Nat) : Int) < (vs.length : Int) := by omega
  have q4 : (0 : Int) ≤ ((J + 1 : Nat) : Int) := by omega
  have q5 : ((J + 1 : Nat) : Int) < (vs.length : Int) := by omega
  have q6 : (0 : Int) ≤ (J : Int) + 1 := by omega
  have q7 : (J : Int) + 1 < (vs.length : Int) := by omega
  have q8 : IntKind.i64.wrap (J : Int) = (J : Int) := IntWalk.i64_in _ (by omega)
  have q9 : ((J : Int) + 1).toNat = J + 1 := by omega
  obtain ⟨k1, n1, s1⟩ := x
  obtain ⟨k2, n2, s2⟩ := y
  have qz : ((J : Int) == 0) = false := by simp <;> omega
  clear hJ0
  have HJ := Lib.hid hj1
  simp only [Nat.zero_add] at x0 x1 x2 y0 y1 y2
  clear h hr hi hx hy hc hj1
  unfold ptr
  go_enter Try.func11, Try.ntmps11
  go_wp2
  go_quiet (fail)
  go_wp2
  refine wp_region_still_tail 38 (by kernel_rfl) (by kernel_rfl) ?_
  simp only [List.take_succ_cons, List.take_zero, List.drop_succ_cons, List.drop_zero]
  generalize hwq : ({ World.drewN w _ with drawn := _ } : World) = wq
  have hWQ : ∃ n, wq = w.drewN n := ⟨nq + 1, by rw [← hwq]; rfl⟩
  have HWQ := Lib.hid hWQ
  have cc0 : wq.cell? ⟨g, 0, none⟩ = some (.slice (some ⟨b, 0, none⟩) vs.length cp) := by rw [← hwq]; exact c0
  have cc1 : wq.cell? ⟨g, 1, none⟩ = some (.int .i64 i) := by rw [← hwq]; exact c1
  have cc2 : wq.cell? ⟨g, 2, none⟩ = some (.int .i64 ((J + 1 : Nat) : Int)) := by rw [← hwq]; exact c2
  have ff1 : wq.frozen? ⟨g, 1, none⟩ = false := by rw [← hwq]; exact f1
  have ff2 : wq.frozen? ⟨g, 2, none⟩ = false := by rw [← hwq]; exact f2
  have rr0 : wq.frozen? ⟨b, J * 3, none⟩ = false := by rw [← hwq]; exact r0
  have rr1 : wq.frozen? ⟨b, J * 3 + 1, none⟩ = false := by rw [← hwq]; exact r1
  have rr2 : wq.frozen? ⟨b, J * 3 + 2, none⟩ = false := by rw [← hwq]; exact r2
  have rr3 : wq.frozen? ⟨b, (J + 1) * 3, none⟩ = false := by rw [← hwq]; exact r3
  have rr4 : wq.frozen? ⟨b, (J + 1) * 3 + 1, none⟩ = false := by rw [← hwq]; exact r4
  have rr5 : wq.frozen? ⟨b, (J + 1) * 3 + 2, none⟩ = false := by rw [← hwq]; exact r5
  have xx0 : wq.cell? ⟨b, J * 3, none⟩ = some (.int .i64 k1) := by rw [← hwq]; exact x0
  have xx1 : wq.cell? ⟨b, J * 3 + 1, none⟩ = some (.int .i64 n1) := by rw [← hwq]; exact x1
  have xx2 : wq.cell? ⟨b, J * 3 + 2, none⟩ = some (.string s1) := by rw [← hwq]; exact x2
  have yy0 : wq.cell? ⟨b, (J + 1) * 3, none⟩ = some (.int .i64 k2) := by rw [← hwq]; exact y0
  have yy1 : wq.cell? ⟨b, (J + 1) * 3 + 1, none⟩ = some (.int .i64 n2) := by rw [← hwq]; exact y1
  have yy2 : wq.cell? ⟨b, (J + 1) * 3 + 2, none⟩ = some (.string s2) := by rw [← hwq]; exact y2
  clear hwq hWQ c0 c1 c2 f1 f2 r0 r1 r2 r3 r4 r5 x0 x1 x2 y0 y1 y2
  repeat still_step
  refine wpStill_nil ?_
  go_wp2
  go_end0
  obtain ⟨nn, rfl⟩ := HWQ.out
  have hs := swapped (HS.out.drewN nn) HJ.out ⟨k1, n1, s1⟩ ⟨k2, n2, s2⟩ hne
  have hk := ((((((((Kp.refl (fun x => x = g ∨ (Value.slice (some ⟨b, 0, none⟩) vs.length cp).ownBlock = some x) w).drewN nn).setCell (p := ⟨b, J * 3, none⟩) (.inr (.inr rfl)) (.int .i64 k2)).setCell (p := ⟨b, J * 3 + 1, none⟩) (.inr (.inr rfl)) (.int .i64 n2)).setCell (p := ⟨b, J * 3 + 2, none⟩) (.inr (.inr rfl)) (.string s2)).setCell (p := ⟨b, (J + 1) * 3, none⟩) (.inr (.inr rfl)) (.int .i64 k1)).setCell (p := ⟨b, (J + 1) * 3 + 1, none⟩) (.inr (.inr rfl)) (.int .i64 n1)).setCell (p := ⟨b, (J + 1) * 3 + 2, none⟩) (.inr (.inr rfl)) (.string s1))
  exact ⟨rfl, hs.set2 _, hk.setCell (.inr (.inl rfl)) _⟩
set_option maxRecDepth 100000 in
set_option maxHeartbeats 8000000 in
theorem tell_swap0 {w : World} {base g : Nat} {v : Value} {vs : List V} {i J : Nat} {x y : V} (h : Srt w base g v vs i ((J + 1 : Nat) : Int)) (hi : i < vs.length) (hx : vs[J]? = some x) (hy : vs[J + 1]? = some y) (hi2 : vs.length ≤ 100000) (c : Int) (hc : 0 < c) (hJ0 : J = 0) :
    Calls Try.prog 11 #[ptr g, .int .i64 c] w (Telld w base g v (swp vs J x y) (i + 1) (i + 1)) := by
  have HS := Lib.hid h
  obtain ⟨A, cp, rfl, _, hr⟩ := h.own.rd
  have hj1 : J + 1 < vs.length := (List.getElem?_eq_some_iff.1 hy).1
  obtain ⟨b, rfl⟩ := h.own.head (by omega)
  obtain ⟨b1, o1, x', hA1, hb, hx', x0, x1, x2⟩ := hr.at_ (show J < vs.length by omega)
  obtain ⟨b2, o2, y', hA2, hb', hy', y0, y1, y2⟩ := hr.at_ hj1
  injection hA1 with hA1
  injection hA1 with hA11 hA12
  injection hA2 with hA2
  injection hA2 with hA21 hA22
  subst hA11 hA12 hA21 hA22
  rw [hx] at hx'
  rw [hy] at hy'
  injection hx' with hx'
  injection hy' with hy'
  subst hx' hy'
  have hne : g ≠ b := fun e => h.ne (by rw [e]; rfl)
  have c0 : w.cell? ⟨g, 0, none⟩ = some (.slice (some ⟨b, 0, none⟩) vs.length cp) := h.blk.cell rfl
  have c1 : w.cell? ⟨g, 1, none⟩ = some (.int .i64 i) := h.blk.cell rfl
  have c2 : w.cell? ⟨g, 2, none⟩ = some (.int .i64 ((J + 1 : Nat) : Int)) := h.blk.cell rfl
  have f1 := h.blk.frozen 1
  have f2 := h.blk.frozen 2
  have r0 := h.own.frozen (J * 3)
  have r1 := h.own.frozen (J * 3 + 1)
  have r2 := h.own.frozen (J * 3 + 2)
  have r3 := h.own.frozen ((J + 1) * 3)
  have r4 := h.own.frozen ((J + 1) * 3 + 1)
  have r5 := h.own.frozen ((J + 1) * 3 + 2)
  have q : decide (vs.length ≤ i) = false := decide_eq_false (by omega)
  have qc : decide (0 < c) = true := decide_eq_true hc
  have hi3 : i ≤ 100000 := by omega
  have qc2 : decide (c ≤ 0) = false := decide_eq_false (by omega)
  have q1 : IntKind.i64.wrap (((J + 1 : Nat) : Int) - 1) = ((J : Nat) : Int) := by rw [IntWalk.i64_in _ (by omega)]; omega
  have q2 : (0 : Int) ≤ ((J : Nat) : Int) := by omega
  have q3 : ((J : Nat) : Int) < (vs.length : Int) := by omega
  have q4 : (0 : Int) ≤ ((J + 1 : Nat) : Int) := by omega
  have q5 : ((J + 1 : Nat) : Int) < (vs.length : Int) := by omega
  have q6 : (0 : Int) ≤ (J : Int) + 1 := by omega
  have q7 : (J : Int) + 1 < (vs.length : Int) := by omega
  have q8 : IntKind.i64.wrap (J : Int) = (J : Int) := IntWalk.i64_in _ (by omega)
  have q9 : ((J : Int) + 1).toNat = J + 1 := by omega
  obtain ⟨k1, n1, s1⟩ := x
  obtain ⟨k2, n2, s2⟩ := y
  have qz : ((J : Int) == 0) = true := by simp <;> omega
  clear hJ0
  have HJ := Lib.hid hj1
  simp only [Nat.zero_add] at x0 x1 x2 y0 y1 y2
  clear h hr hi hx hy hc hj1
  unfold ptr
  go_enter Try.func11, Try.ntmps11
  go_wp2
  go_quiet (fail)
  go_wp2
  refine wp_region_still_tail 38 (by kernel_rfl) (by kernel_rfl) ?_
  simp only [List.take_succ_cons, List.take_zero, List.drop_succ_cons, List.drop_zero]
  generalize hwq : ({ World.drewN w _ with drawn := _ } : World) = wq
  have hWQ : ∃ n, wq = w.drewN n := ⟨nq + 1, by rw [← hwq]; rfl⟩
  have HWQ := Lib.hid hWQ
  have cc0 : wq.cell? ⟨g, 0, none⟩ = some (.slice (some ⟨b, 0, none⟩) vs.length cp) := by rw [← hwq]; exact c0
  have cc1 : wq.cell? ⟨g, 1, none⟩ = some (.int .i64 i) := by rw [← hwq]; exact c1
  have cc2 : wq.cell? ⟨g, 2, none⟩ = some (.int .i64 ((J + 1 : Nat) : Int)) := by rw [← hwq]; exact c2
  have ff1 : wq.frozen? ⟨g, 1, none⟩ = false := by rw [← hwq]; exact f1
  have ff2 : wq.frozen? ⟨g, 2, none⟩ = false := by rw [← hwq]; exact f2
  have rr0 : wq.frozen? ⟨b, J * 3, none⟩ = false := by rw [← hwq]; exact r0
  have rr1 : wq.frozen? ⟨b, J * 3 + 1, none⟩ = false := by rw [← hwq]; exact r1
  have rr2 : wq.frozen? ⟨b, J * 3 + 2, none⟩ = false := by rw [← hwq]; exact r2
  have rr3 : wq.frozen? ⟨b, (J + 1) * 3, none⟩ = false := by rw [← hwq]; exact r3
  have rr4 : wq.frozen? ⟨b, (J + 1) * 3 + 1, none⟩ = false := by rw [← hwq]; exact r4
  have rr5 : wq.frozen? ⟨b, (J + 1) * 3 + 2, none⟩ = false := by rw [← hwq]; exact r5
  have xx0 : wq.cell? ⟨b, J * 3, none⟩ = some (.int .i64 k1) := by rw [← hwq]; exact x0
  have xx1 : wq.cell? ⟨b, J * 3 + 1, none⟩ = some (.int .i64 n1) := by rw [← hwq]; exact x1
  have xx2 : wq.cell? ⟨b, J * 3 + 2, none⟩ = some (.string s1) := by rw [← hwq]; exact x2
  have yy0 : wq.cell? ⟨b, (J + 1) * 3, none⟩ = some (.int .i64 k2) := by rw [← hwq]; exact y0
  have yy1 : wq.cell? ⟨b, (J + 1) * 3 + 1, none⟩ = some (.int .i64 n2) := by rw [← hwq]; exact y1
  have yy2 : wq.cell? ⟨b, (J + 1) * 3 + 2, none⟩ = some (.string s2) := by rw [← hwq]; exact y2
  clear hwq hWQ c0 c1 c2 f1 f2 r0 r1 r2 r3 r4 r5 x0 x1 x2 y0 y1 y2
  repeat still_step
  refine wpStill_nil ?_
  go_wp2
  go_end0
  obtain ⟨nn, rfl⟩ := HWQ.out
  have hs := swapped (HS.out.drewN nn) HJ.out ⟨k1, n1, s1⟩ ⟨k2, n2, s2⟩ hne
  have hk := ((((((((Kp.refl (fun x => x = g ∨ (Value.slice (some ⟨b, 0, none⟩) vs.length cp).ownBlock = some x) w).drewN nn).setCell (p := ⟨b, J * 3, none⟩) (.inr (.inr rfl)) (.int .i64 k2)).setCell (p := ⟨b, J * 3 + 1, none⟩) (.inr (.inr rfl)) (.int .i64 n2)).setCell (p := ⟨b, J * 3 + 2, none⟩) (.inr (.inr rfl)) (.string s2)).setCell (p := ⟨b, (J + 1) * 3, none⟩) (.inr (.inr rfl)) (.int .i64 k1)).setCell (p := ⟨b, (J + 1) * 3 + 1, none⟩) (.inr (.inr rfl)) (.int .i64 n1)).setCell (p := ⟨b, (J + 1) * 3 + 2, none⟩) (.inr (.inr rfl)) (.string s1))
  exact ⟨rfl, ((hs.set2 _).set1 _).set2 _, ((hk.setCell (.inr (.inl rfl)) _).setCell (.inr (.inl rfl)) _).setCell (.inr (.inl rfl)) _⟩
end Go.Proofs.Ytecoghabjcnbnaa
