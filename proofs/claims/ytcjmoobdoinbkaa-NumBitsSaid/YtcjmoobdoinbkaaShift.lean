/- The contract of dreyref01's Shift. Conditions: no more than 63 places; the fill is 0 or 1. -/
import Derived.Test.YtcjmoobdoinbkaaRef
namespace Go.Proofs.Ytcjmoobdoinbkaa
open Go.RowKit
set_option linter.unusedVariables false
/-- Bit i of a number shifted n places up, filled with f from above. -/
def shv (a n f : Int) (i : Nat) : Int := if 0 ≤ (i : Int) - n ∧ (i : Int) - n < 64 then ibit a ((i : Int) - n).toNat else if 0 ≤ n then 0 else f
theorem shv_01 (a n f : Int) (hf : 0 ≤ f ∧ f ≤ 1) (i : Nat) : 0 ≤ shv a n f i ∧ shv a n f i ≤ 1 := by
  unfold shv
  have := ibit_lo a ((i : Int) - n).toNat
  split
  · exact this
  · split
    · omega
    · exact hf
theorem put1 {n X Z k : Nat} {r0 : List Value} {w wr : World} {g : Nat → Int} {v : Int} (g0 : Blk wr X 38 r0) (g1 : Blk wr Z 38 (row64 fun j => if j < k then g j else 0)) (gb : Below n w wr) (hX : X ≠ Z) (hZ : n ≤ Z) (hv : v = g k) :
    Blk (wr.setCell ⟨Z, k, none⟩ (.int .i64 v)) X 38 r0 ∧ Blk (wr.setCell ⟨Z, k, none⟩ (.int .i64 v)) Z 38 (row64 fun j => if j < k + 1 then g j else 0) ∧ Below n w (wr.setCell ⟨Z, k, none⟩ (.int .i64 v)) :=
  ⟨g0.far hX _, row_put g1 hv, gb.setCell hZ _⟩
theorem put2 {n X Z k : Nat} {r0 : List Value} {w wr : World} {g : Nat → Int} {v : Int} (u : Value) (g0 : Blk wr X 38 r0) (g1 : Blk wr Z 38 (row64 fun j => if j < k then g j else 0)) (gb : Below n w wr) (hX : X ≠ Z) (hZ : n ≤ Z) (hv : v = g k) :
    Blk ((wr.setCell ⟨Z, k, none⟩ u).setCell ⟨Z, k, none⟩ (.int .i64 v)) X 38 r0 ∧ Blk ((wr.setCell ⟨Z, k, none⟩ u).setCell ⟨Z, k, none⟩ (.int .i64 v)) Z 38 (row64 fun j => if j < k + 1 then g j else 0) ∧ Below n w ((wr.setCell ⟨Z, k, none⟩ u).setCell ⟨Z, k, none⟩ (.int .i64 v)) := by
  refine ⟨(g0.far hX _).far hX _, ?_, (gb.setCell hZ _).setCell hZ _⟩
  have h2 := (g1.set_ k u).set_ k (.int .i64 v)
  rw [List.set_set, row_set, row_next _ _ hv] at h2
  exact h2
theorem put3 {n X Z k : Nat} {r0 : List Value} {w wr : World} {g : Nat → Int} {v : Int} (u u' : Value) (g0 : Blk wr X 38 r0) (g1 : Blk wr Z 38 (row64 fun j => if j < k then g j else 0)) (gb : Below n w wr) (hX : X ≠ Z) (hZ : n ≤ Z) (hv : v = g k) :
    Blk (((wr.setCell ⟨Z, k, none⟩ u).setCell ⟨Z, k, none⟩ u').setCell ⟨Z, k, none⟩ (.int .i64 v)) X 38 r0 ∧ Blk (((wr.setCell ⟨Z, k, none⟩ u).setCell ⟨Z, k, none⟩ u').setCell ⟨Z, k, none⟩ (.int .i64 v)) Z 38 (row64 fun j => if j < k + 1 then g j else 0) ∧ Below n w (((wr.setCell ⟨Z, k, none⟩ u).setCell ⟨Z, k, none⟩ u').setCell ⟨Z, k, none⟩ (.int .i64 v)) := by
  refine ⟨((g0.far hX _).far hX _).far hX _, ?_, ((gb.setCell hZ _).setCell hZ _).setCell hZ _⟩
  have h2 := ((g1.set_ k u).set_ k u').set_ k (.int .i64 v)
  rw [List.set_set, List.set_set, row_set, row_next _ _ hv] at h2
  exact h2
set_option maxRecDepth 100000 in
set_option maxHeartbeats 8000000 in
theorem shift_any (a n f : Int) (w : World) (hn1 : -63 ≤ n) (hn2 : n ≤ 63) (hf : 0 ≤ f ∧ f ≤ 1) : Calls Try.prog 33 #[.int .i64 a, .int .i64 n, .int .i64 f] w (Num (wrap64 (bsum (shv a n f) 64)) w) := by
  have HF := Lib.hid hf
  clear hf
  · skip
    go_enter Try.func33, Try.ntmps33
    go_wp2_with (first
      | (go_at_call 28; refine (bits_any a _).mono ?_; rintro e w1 ⟨rfl, hb1⟩; have HB1 := Lib.hid hb1; clear hb1)
      | (refine wpList_store_arr rfl rfl (.tmp 7) (.tmp 12) rfl w1.heap.size rfl (fun _ => 0) (ibit a) (by exact Blk.made rfl 38 (row64 fun _ => 0)) rfl ?_; intro w3 hb3 hk3 hs3; have H3 := Lib.hid (And.intro hb3 (And.intro hk3 hs3)); clear hb3 hk3 hs3))
    have hsz : w.heap.size ≤ w1.heap.size := HB1.out.size
    have hs3 : w3.heap.size = w1.heap.size + 1 := by have := H3.out.2.2; simpa using this
    have hbw3 : Below w.heap.size w w3 := kp_below (HB1.out.alloc hsz _) H3.out.2.1 (fun b hb e => by omega)
    have HW := Lib.hid (And.intro hbw3 hs3)
    have hne : w1.heap.size ≠ w3.heap.size := by omega
    clear hbw3 hs3
    go_loopw [9] (fun i wr => ∃ k : Nat, k ≤ 64 ∧ i = .int .i64 k ∧ Blk wr w1.heap.size 38 (row64 (ibit a)) ∧ Blk wr w3.heap.size 38 (row64 fun j => if j < k then shv a n f j else 0) ∧ Below w.heap.size w wr) (fun i _ => 64 - (intOf i).toNat)
    case atStart =>
      refine ⟨0, by omega, rfl, H3.out.1.alloc _, ?_, HW.out.1.alloc (by have := HW.out.2; omega) _⟩
      exact Blk.made rfl 38 (row64 fun _ => 0)
    case round =>
      obtain ⟨k, hk, rfl, hb0, hb1, hbl⟩ := hrel
      have H5 := Lib.hid (And.intro hb0 (And.intro hb1 hbl))
      by_cases hlt : k < 64
      · have hz := hb1.cell (row_get _ hlt)
        rw [if_neg (Nat.lt_irrefl k)] at hz
        have hfz := hb1.frozen k
        have hk0 : (0 : Int) ≤ (k : Int) := by omega
        have hk64 : (k : Int) < 64 := by omega
        by_cases hin : 0 ≤ (k : Int) - n ∧ (k : Int) - n < 64
        · obtain ⟨q, hq⟩ := Int.eq_ofNat_of_zero_le hin.1
          have hq64 : q < 64 := by omega
          have e1 : IntKind.i64.wrap ((k : Int) - n) = (q : Int) := by rw [hq]; exact IntWalk.i64_in _ (by omega)
          have hx := hb0.cell (row_get (ibit a) hq64)
          have HV : Hid (ibit a q = shv a n f k) := by unfold shv; rw [if_pos hin, hq]; rfl
          clear hb0 hb1 hbl hin hq
          go_wp2
          all_goals
            go_roundw
            case rel =>
              obtain ⟨g0, g1, gb⟩ := H5.out
              have hZ : w.heap.size ≤ w3.heap.size := by have := HW.out.2; omega
              refine ⟨k + 1, by omega, by go_num, ?_⟩
              first
                | (with_reducible exact put1 g0 g1 gb hne hZ HV.out)
                | (with_reducible exact put2 _ g0 g1 gb hne hZ HV.out)
                | (with_reducible exact put3 _ _ g0 g1 gb hne hZ HV.out)
            case measure => simp [intOf] <;> omega
        · have hV : shv a n f k = if 0 ≤ n then 0 else f := by unfold shv; rw [if_neg hin]
          by_cases h1 : 0 ≤ (k : Int) - n
          · have h2 : ¬ (k : Int) - n < 64 := fun h => hin ⟨h1, h⟩
            have h3 : ¬ 0 ≤ n := by omega
            have d1 : decide (0 ≤ (k : Int) - n) = true := decide_eq_true h1
            have d2 : decide ((k : Int) - n < 64) = false := decide_eq_false h2
            rw [if_neg h3] at hV
            have HV : Hid (f = shv a n f k) := hV.symm
            have d3 : decide (0 ≤ n) = false := decide_eq_false h3
            clear hb0 hb1 hbl hin hV
            go_wp2
            go_roundw
            case rel =>
              obtain ⟨g0, g1, gb⟩ := H5.out
              have hZ : w.heap.size ≤ w3.heap.size := by have := HW.out.2; omega
              refine ⟨k + 1, by omega, by go_num, ?_⟩
              first
                | (with_reducible exact put1 g0 g1 gb hne hZ HV.out)
                | (with_reducible exact put2 _ g0 g1 gb hne hZ HV.out)
                | (with_reducible exact put3 _ _ g0 g1 gb hne hZ HV.out)
            case measure => simp [intOf] <;> omega
          · have d1 : decide (0 ≤ (k : Int) - n) = false := decide_eq_false h1
            have h3 : 0 ≤ n := by omega
            rw [if_pos h3] at hV
            have HV : Hid (0 = shv a n f k) := hV.symm
            have d3 : decide (0 ≤ n) = true := decide_eq_true h3
            clear hb0 hb1 hbl hin hV
            go_wp2
            go_roundw
            case rel =>
              obtain ⟨g0, g1, gb⟩ := H5.out
              have hZ : w.heap.size ≤ w3.heap.size := by have := HW.out.2; omega
              refine ⟨k + 1, by omega, by go_num, ?_⟩
              first
                | (with_reducible exact put1 g0 g1 gb hne hZ HV.out)
                | (with_reducible exact put2 _ g0 g1 gb hne hZ HV.out)
                | (with_reducible exact put3 _ _ g0 g1 gb hne hZ HV.out)
            case measure => simp [intOf] <;> omega
      · have hk64 : k = 64 := by omega
        obtain ⟨g0, g1, gb⟩ := H5.out
        have e : row64 (fun j => if j < k then shv a n f j else 0) = row64 (shv a n f) := row_congr fun i hi => by rw [if_pos (by omega)]
        rw [e] at g1
        have G2 := Lib.hid g1
        have GB := Lib.hid gb
        have q9 : decide ((k : Int) < 64) = false := decide_eq_false (by omega)
        clear hb0 hb1 hbl e gb g0 g1 hk64
        go_wp2_with (first
          | (refine wpList_load_arr rfl (.tmp 8) rfl w3.heap.size rfl _ G2.out ?_)
          | (go_at_call 56; refine (number_any _ (shv_01 a n f HF.out) _).mono ?_; rintro e w5 ⟨rfl, hb5⟩; have HB5 := Lib.hid hb5; clear hb5))
        go_ret
        exact ⟨rfl, GB.out.trans (HB5.out.mono GB.out.size)⟩
end Go.Proofs.Ytcjmoobdoinbkaa
