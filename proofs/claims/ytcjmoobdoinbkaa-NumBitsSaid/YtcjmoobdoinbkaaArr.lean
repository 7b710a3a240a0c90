/- Arrays of 64 ints by value: a block that holds one, loaded and stored whole; the contract of dreyref01's Bits. No condition. -/
import Derived.Test.YtcjmoobdoinbkaaBase
import Derived.Laws.Tables
import Derived.Laws.Rows
namespace Go.Proofs.Ytcjmoobdoinbkaa
open Go.RowKit
set_option linter.unusedVariables false
theorem info38 : (Try.prog.info? 38).map (fun i => (i.zero, i.size)) = some (some (.agg (Array.replicate 64 (.int .i64 0))), 64) := by kernel_rfl
theorem size38 : (Try.prog.info? 38).map (·.size) = some 64 := by
  have h := info38
  cases hq : Try.prog.info? 38 with
  | none => rw [hq] at h; cases h
  | some i => rw [hq] at h; simp at h; simp [h.2]
/-- The cells of 64 ints. -/
def row64 (f : Nat → Int) : List Value := (List.range 64).map (fun i => .int .i64 (f i))
theorem row_len (f : Nat → Int) : (row64 f).length = 64 := by simp [row64]
theorem row_get (f : Nat → Int) {i : Nat} (h : i < 64) : (row64 f)[i]? = some (.int .i64 (f i)) := by
  unfold row64; simp [h]
theorem row_set (f : Nat → Int) (i : Nat) (v : Int) : (row64 f).set i (.int .i64 v) = row64 (fun j => if j = i then v else f j) := by
  apply List.ext_getElem?
  intro j
  rw [List.getElem?_set, row_len]
  by_cases hj : j < 64
  · rw [row_get f hj, row_get _ hj]
    by_cases e : i = j
    · subst e; simp [hj]
    · rw [if_neg e, if_neg (fun h => e h.symm)]
  · have h1 : (row64 f)[j]? = none := List.getElem?_eq_none (by rw [row_len]; omega)
    have h2 : (row64 (fun j => if j = i then v else f j))[j]? = none := List.getElem?_eq_none (by rw [row_len]; omega)
    rw [h1, h2]
    by_cases e : i = j
    · subst e; simp [hj]
    · rw [if_neg e]
theorem row_congr {f g : Nat → Int} (h : ∀ i, i < 64 → f i = g i) : row64 f = row64 g := by
  unfold row64
  apply List.map_congr_left
  intro i hi
  rw [h i (by simpa using hi)]
theorem row_one (f : Nat → Int) : ((row64 f).toArray).all (·.oneCell') = true := by
  rw [Array.all_eq_true_iff_forall_mem]
  intro v hv
  simp [row64] at hv
  obtain ⟨i, _, rfl⟩ := hv
  rfl
section
variable {ops : Array Oper} {rest : List Oper} {o : Oper} {a : Act} {w : World} {Q : Exit → Act → World → Prop}
theorem wpList_load_arr (hgd : o.guard = none) (x : Operand) (ho : o.op = .load 38 x) (g : Nat) (hx : a.eval x = .pointer (some ⟨g, 0, none⟩)) (f : Nat → Int) (hb : Blk w g 38 (row64 f))
    (h : wpList Try.prog ops Q rest (a.put o.dst (.agg (row64 f).toArray)) w) : wpList Try.prog ops Q (o :: rest) a w :=
  wpList_load_row hgd 38 x ho g hx 38 (row64 f).toArray (0, 0) _ hb Try.underlying38 rfl (by rw [size38]; simp [row_len]) h
theorem wpList_store_arr (hgd : o.guard = none) (hd : o.dst = none) (x y : Operand) (ho : o.op = .store 38 x y) (g : Nat) (hx : a.eval x = .pointer (some ⟨g, 0, none⟩)) (f0 f : Nat → Int) (hb : Blk w g 38 (row64 f0)) (hy : a.eval y = .agg (row64 f).toArray)
    (h : ∀ w', Blk w' g 38 (row64 f) → Kp (fun b => b = g) w w' → w'.heap.size = w.heap.size → wpList Try.prog ops Q rest a w') : wpList Try.prog ops Q (o :: rest) a w := by
  refine wpList_plain hgd fun K' hK => ?_
  refine wp_store_row 38 x y ho g (row64 f).toArray hx hy 38 (row64 f0).toArray hb (by rw [size38]; simp [row_len]) (by simp [row_len]) (row_one f) ?_
  rw [hd]
  exact hK _ _ (h _ (hb.setRow _) ((Kp.refl (fun b => b = g) w).setRow (.inr rfl) _) (by simp))
end
theorem u_half (U : Int) (k : Nat) : U / 2 ^ (k + 1) = U / 2 ^ k / 2 := div_pow_succ U k
theorem kp_below {S : Nat → Prop} {w w1 w2 : World} (h : Below w.heap.size w w1) (k : Kp S w1 w2) (hs : ∀ b, b < w.heap.size → ¬ S b) : Below w.heap.size w w2 :=
  ((Kp.of_below (S := S) h).trans k (fun _ _ x => x)).below hs
/-- What Bits leaves. -/
def Bitd (a : Int) (w : World) (e : Ending) (w' : World) : Prop := e = .returned (.agg (row64 (ibit a)).toArray) ∧ Below w.heap.size w w'
set_option maxRecDepth 100000 in
set_option maxHeartbeats 2000000 in
theorem bits_any (a : Int) (w : World) : Calls Try.prog 28 #[.int .i64 a] w (Bitd a w) := by
  obtain ⟨U, hU⟩ : ∃ U, a % 18446744073709551616 = U := ⟨_, rfl⟩
  have hu0 : 0 ≤ U ∧ U ≤ 18446744073709551615 := by omega
  have hw := u64_mod a
  rw [hU] at hw
  have hib : ∀ k, k < 64 → ibit a k = U / 2 ^ k % 2 := fun k hk => by rw [← ibit_mod a hk, hU]; rfl
  have HI := Lib.hid hib
  have HU := Lib.hid hu0
  clear hib hu0 hU
  go_enter Try.func28, Try.ntmps28
  go_wp2
  go_loopw [4, 5] (fun u i wr => ∃ k : Nat, k ≤ 64 ∧ i = .int .i64 k ∧ u = .int .u64 (U / 2 ^ k) ∧ Blk wr w.heap.size 38 (row64 fun _ => 0) ∧ Blk wr (w.heap.size + 1) 38 (row64 fun j => if j < k then ibit a j else 0) ∧ Below w.heap.size w wr) (fun _ i _ => 64 - (intOf i).toNat)
  case atStart =>
    refine ⟨0, by omega, rfl, by simp, ?_, ?_, ((Below.refl _ _).alloc (Nat.le_refl _) _).alloc (by simp) _⟩
    · exact (Blk.made rfl 38 (row64 fun _ => 0)).alloc _
    · exact Blk.made (by simp) 38 (row64 fun _ => 0)
  case round =>
    obtain ⟨k, hk, rfl, rfl, hb0, hb1, hbl⟩ := hrel
    obtain ⟨u, hu⟩ : ∃ u, U / 2 ^ k = u := ⟨_, rfl⟩
    have hu1 : 0 ≤ u ∧ u ≤ 18446744073709551615 := by
      rw [← hu]
      have := HU.out
      exact ⟨Int.ediv_nonneg this.1 (Int.le_of_lt (pow_pos' k)), Int.le_trans (Int.ediv_le_self _ this.1) this.2⟩
    rw [hu]
    have HK := Lib.hid hu
    obtain ⟨u0, u1⟩ := hu1
    clear hu hw
    have H0 := Lib.hid hb0
    have H1 := Lib.hid hb1
    have HB := Lib.hid hbl
    by_cases hlt : k < 64
    · have hc := hb1.cell (row_get _ hlt)
      rw [if_neg (Nat.lt_irrefl k)] at hc
      have hf := hb1.frozen k
      clear hb0 hb1 hbl
      go_wp2
      go_roundw
      case rel =>
        refine ⟨k + 1, by omega, by go_num, by rw [u_half, HK.out], H0.out.far (by show w.heap.size ≠ w.heap.size + 1; omega) _, ?_, HB.out.setCell (by simp) _⟩
        have h2 := H1.out.set_ k (.int .i64 (u % 2))
        rw [row_set] at h2
        have e : row64 (fun j => if j = k then u % 2 else if j < k then ibit a j else 0) = row64 (fun j => if j < k + 1 then ibit a j else 0) := by
          apply row_congr
          intro j hj
          by_cases h1 : j = k
          · subst h1
            rw [if_pos rfl, if_pos (by omega), HI.out j hj, HK.out]
          · rw [if_neg h1]
            by_cases h2 : j < k
            · rw [if_pos h2, if_pos (by omega)]
            · rw [if_neg h2, if_neg (by omega)]
        rw [e] at h2
        exact h2
      case measure => simp [intOf]; omega
    · have hk64 : k = 64 := by omega
      have HKK := Lib.hid hk64
      clear hb0 hb1 hbl hk64
      go_wp2_with (first
        | (refine wpList_load_arr rfl (.tmp 3) rfl (w.heap.size + 1) rfl _ H1.out ?_)
        | (refine wpList_store_arr rfl rfl (.tmp 2) (.tmp 19) rfl w.heap.size rfl _ _ H0.out rfl ?_; intro w2 hb2 hk2 hs2; have HB2 := Lib.hid hb2; have HK2 := Lib.hid hk2; clear hb2 hk2 hs2))
      refine bodyPost_ret (v := .agg (row64 fun j => if j < k then ibit a j else 0).toArray) ?_ rfl ⟨?_, kp_below HB.out HK2.out (fun b hb e => by omega)⟩
      · exact results_cell_row (P := Try.prog) (p := 2) (ty := 38) (by rfl) _ _ w.heap.size 38 _ (0, 0) _ rfl HB2.out Try.underlying38 rfl (by rw [size38]; simp [row_len])
      · rw [row_congr (g := ibit a)]
        intro i hi
        have := HKK.out
        show (if i < k then ibit a i else 0) = _
        rw [if_pos (by omega)]
end Go.Proofs.Ytcjmoobdoinbkaa
