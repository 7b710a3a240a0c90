/- The contracts of (*order.Sort).Pair and Tell. Conditions: no more than some thousands of values; the places stand in the list. -/
import Derived.Test.YtecoghabjcnbnaaEqs
import Derived.BigRegion
namespace Go.Proofs.Ytecoghabjcnbnaa
open Go.RowKit
set_option linter.unusedVariables false
theorem below_drewN {w w1 : World} (h : Below w.heap.size w w1) (n : Nat) : Below w.heap.size w (w1.drewN n) := ((Kp.of_below (S := fun _ => False) h).drewN n).below (fun _ _ h => h)
set_option maxRecDepth 100000 in
set_option maxHeartbeats 4000000 in
theorem pair_none {w : World} {base g : Nat} {v : Value} {vs : List V} {i j : Nat} (h : Srt w base g v vs i j) (hi : vs.length ≤ i) (hi2 : i ≤ 100000) :
    Calls Try.prog 10 #[ptr g] w fun e w' => e = .returned (.tuple #[V.null.agg, V.null.agg, .bool false]) ∧ Below w.heap.size w w' := by
  obtain ⟨A, c, rfl, _, hr⟩ := h.own.rd
  have c0 : w.cell? ⟨g, 0, none⟩ = some (.slice A vs.length c) := h.blk.cell rfl
  have c1 : w.cell? ⟨g, 1, none⟩ = some (.int .i64 i) := h.blk.cell rfl
  have q : decide (vs.length ≤ i) = true := decide_eq_true hi
  have hlt := h.blk.lt
  clear h hr hi
  unfold ptr
  go_enter Try.func10, Try.ntmps10
  go_wp2
  go_quiet (fail)
  go_wp2_with (go_at_call 15; refine (null_any _).mono ?_; rintro e w' ⟨rfl, rfl⟩; unfold V.agg V.null)
  refine bodyPost_ret (v := .tuple #[V.null.agg, V.null.agg, .bool false]) (by simp [results, Try.results10, go_sem, V.null, V.agg]) rfl ⟨rfl, ?_⟩
  exact below_alloc (below_alloc (Below.setCell (Below.setCell (Below.setCell (Below.setCell (Below.setCell (Below.setCell (below_drewN (below_alloc (below_alloc (Below.refl w.heap.size w) _) _) _) (by simp) _) (by simp) _) (by simp) _) (by simp) _) (by simp) _) (by simp) _) _) _
set_option maxRecDepth 100000 in
set_option maxHeartbeats 4000000 in
theorem pair_some {w : World} {base g : Nat} {v : Value} {vs : List V} {i j : Nat} {x y : V} (h : Srt w base g v vs i ((j + 1 : Nat) : Int)) (hi : i < vs.length) (hx : vs[j]? = some x) (hy : vs[j + 1]? = some y) (hi2 : vs.length ≤ 100000) :
    Calls Try.prog 10 #[ptr g] w fun e w' => e = .returned (.tuple #[x.agg, y.agg, .bool true]) ∧ Below w.heap.size w w' := by
  obtain ⟨A, c, rfl, _, hr⟩ := h.own.rd
  have hj1 : j + 1 < vs.length := (List.getElem?_eq_some_iff.1 hy).1
  obtain ⟨b, o, x', rfl, hb, hx', x0, x1, x2⟩ := hr.at_ (show j < vs.length by omega)
  obtain ⟨b', o', y', hA, hb', hy', y0, y1, y2⟩ := hr.at_ hj1
  injection hA with hA
  injection hA with hA1 hA2
  subst hA1 hA2
  rw [hx] at hx'
  rw [hy] at hy'
  injection hx' with hx'
  injection hy' with hy'
  subst hx' hy'
  have c0 : w.cell? ⟨g, 0, none⟩ = some (.slice (some ⟨b, o, none⟩) vs.length c) := h.blk.cell rfl
  have c1 : w.cell? ⟨g, 1, none⟩ = some (.int .i64 i) := h.blk.cell rfl
  have c2 : w.cell? ⟨g, 2, none⟩ = some (.int .i64 ((j + 1 : Nat) : Int)) := h.blk.cell rfl
  have q : decide (vs.length ≤ i) = false := decide_eq_false (by omega)
  have q1 : IntKind.i64.wrap (((j + 1 : Nat) : Int) - 1) = (j : Int) := by rw [IntWalk.i64_in _ (by omega)]; omega
  have q2 : (0 : Int) ≤ (j : Int) := by omega
  have q3 : (j : Int) < (vs.length : Int) := by omega
  have q4 : (0 : Int) ≤ ((j + 1 : Nat) : Int) := by omega
  have q5 : ((j + 1 : Nat) : Int) < (vs.length : Int) := by omega
  have hlt := h.blk.lt
  obtain ⟨k1, n1, s1⟩ := x
  obtain ⟨k2, n2, s2⟩ := y
  simp only at x0 x1 x2 y0 y1 y2
  clear h hr hi hx hy hj1
  unfold ptr
  go_enter Try.func10, Try.ntmps10
  go_wp2
  go_quiet (fail)
  go_wp2
  generalize hwq : World.drewN _ _ = wq
  have hsz : w.heap.size + 2 = wq.heap.size := by rw [← hwq]; simp
  have hbl : Below w.heap.size w wq := by
    rw [← hwq]
    exact below_drewN (below_alloc (below_alloc (Below.refl w.heap.size w) _) _) _
  have g0 : wq.cell? ⟨g, 0, none⟩ = some (.slice (some ⟨b, o, none⟩) vs.length c) := (hbl.cell (p := ⟨g, 0, none⟩) hlt).trans c0
  have g2 : wq.cell? ⟨g, 2, none⟩ = some (.int .i64 ((j + 1 : Nat) : Int)) := (hbl.cell (p := ⟨g, 2, none⟩) hlt).trans c2
  have xx0 : wq.cell? ⟨b, o + j * 3, none⟩ = some (.int .i64 k1) := (hbl.cell (p := ⟨b, o + j * 3, none⟩) hb).trans x0
  have xx1 : wq.cell? ⟨b, o + j * 3 + 1, none⟩ = some (.int .i64 n1) := (hbl.cell (p := ⟨b, o + j * 3 + 1, none⟩) hb).trans x1
  have xx2 : wq.cell? ⟨b, o + j * 3 + 2, none⟩ = some (.string s1) := (hbl.cell (p := ⟨b, o + j * 3 + 2, none⟩) hb).trans x2
  have yy0 : wq.cell? ⟨b, o + (j + 1) * 3, none⟩ = some (.int .i64 k2) := (hbl.cell (p := ⟨b, o + (j + 1) * 3, none⟩) hb).trans y0
  have yy1 : wq.cell? ⟨b, o + (j + 1) * 3 + 1, none⟩ = some (.int .i64 n2) := (hbl.cell (p := ⟨b, o + (j + 1) * 3 + 1, none⟩) hb).trans y1
  have yy2 : wq.cell? ⟨b, o + (j + 1) * 3 + 2, none⟩ = some (.string s2) := (hbl.cell (p := ⟨b, o + (j + 1) * 3 + 2, none⟩) hb).trans y2
  have B0 : Blk wq w.heap.size 26 [.int .i64 0, .int .i64 0, .string ⟨#[]⟩] := by rw [← hwq]; exact ((Blk.made rfl 26 [.int .i64 0, .int .i64 0, .string ⟨#[]⟩]).alloc _).drewN _
  have B1 : Blk wq (w.heap.size + 1) 26 [.int .i64 0, .int .i64 0, .string ⟨#[]⟩] := by rw [← hwq]; exact (Blk.made (by simp) 26 [.int .i64 0, .int .i64 0, .string ⟨#[]⟩]).drewN _
  have z00 : wq.cell? ⟨w.heap.size, 0, none⟩ = some (.int .i64 0) := B0.cell rfl
  have z01 : wq.cell? ⟨w.heap.size, 1, none⟩ = some (.int .i64 0) := B0.cell rfl
  have z02 : wq.cell? ⟨w.heap.size, 2, none⟩ = some (.string ⟨#[]⟩) := B0.cell rfl
  have z10 : wq.cell? ⟨w.heap.size + 1, 0, none⟩ = some (.int .i64 0) := B1.cell rfl
  have z11 : wq.cell? ⟨w.heap.size + 1, 1, none⟩ = some (.int .i64 0) := B1.cell rfl
  have z12 : wq.cell? ⟨w.heap.size + 1, 2, none⟩ = some (.string ⟨#[]⟩) := B1.cell rfl
  have f00 := B0.frozen 0
  have f01 := B0.frozen 1
  have f02 := B0.frozen 2
  have f10 := B1.frozen 0
  have f11 := B1.frozen 1
  have f12 := B1.frozen 2
  have HBL := Lib.hid hbl
  have HSZ := Lib.hid hsz
  clear hwq hsz hbl B0 B1 x0 x1 x2 y0 y1 y2 c0 c1 c2
  obtain ⟨H, hH⟩ : ∃ H, w.heap.size = H := ⟨_, rfl⟩
  rw [hH] at z00 z01 z02 z10 z11 z12 f00 f01 f02 f10 f11 f12 hlt hb ⊢
  have n1' : g ≠ H := by omega
  have n2' : g ≠ H + 1 := by omega
  have n3' : b ≠ H := by omega
  have n4' : b ≠ H + 1 := by omega
  have HH := Lib.hid hH
  clear hH
  go_region
  go_wp2
  refine bodyPost_ret (v := .tuple #[V.agg ⟨k1, n1, s1⟩, V.agg ⟨k2, n2, s2⟩, .bool true]) (by simp [results, Try.results10, go_sem, V.agg, z00, z01, z02, z10, z11, z12]) rfl ⟨rfl, ?_⟩
  exact ((Below.setCell (Below.setCell (Below.setCell (Below.setCell (Below.setCell (Below.setCell HBL.out (by exact Nat.le_of_eq HH.out) _) (by exact Nat.le_of_eq HH.out) _) (by exact Nat.le_of_eq HH.out) _) (by exact Nat.le_succ_of_le (Nat.le_of_eq HH.out)) _) (by exact Nat.le_succ_of_le (Nat.le_of_eq HH.out)) _) (by exact Nat.le_succ_of_le (Nat.le_of_eq HH.out)) _)).drew
end Go.Proofs.Ytecoghabjcnbnaa
