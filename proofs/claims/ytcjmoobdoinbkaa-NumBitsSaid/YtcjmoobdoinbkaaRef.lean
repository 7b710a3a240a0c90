/- The contracts of dreyref01's Number, Add, Not, Neg, Mul. Conditions: bits are 0 or 1. -/
import Derived.Test.YtcjmoobdoinbkaaArr
import Derived.Deep.QuietTactic
import Derived.BigQuiet
import Derived.Deep.Draws
namespace Go.Proofs.Ytcjmoobdoinbkaa
open Go.RowKit
set_option linter.unusedVariables false
/-- The number of the bits from the highest down, d of them. -/
def up (f : Nat → Int) : Nat → Int
  | 0 => 0
  | d + 1 => up f d * 2 + f (63 - d)
theorem pow_mono {m n : Nat} (h : m ≤ n) : (2 : Int) ^ m ≤ 2 ^ n := by
  have : ((2 ^ m : Nat) : Int) ≤ ((2 ^ n : Nat) : Int) := Int.ofNat_le.2 (Nat.pow_le_pow_right (by decide) h)
  simpa using this
theorem up_bd {f : Nat → Int} (hf : ∀ i, 0 ≤ f i ∧ f i ≤ 1) (d : Nat) : 0 ≤ up f d ∧ up f d < 2 ^ d := by
  induction d with
  | zero => simp [up]
  | succ d ih =>
    have := hf (63 - d)
    unfold up
    rw [Int.pow_succ]
    omega
theorem up_sum (f : Nat → Int) (d : Nat) (hd : d ≤ 64) : bsum f 64 = bsum f (64 - d) + 2 ^ (64 - d) * up f d := by
  induction d with
  | zero => simp [up]
  | succ d ih =>
    rw [ih (by omega)]
    have e : 64 - d = (64 - (d + 1)) + 1 := by omega
    rw [e, show up f (d + 1) = up f d * 2 + f (63 - d) from rfl]
    rw [show bsum f (64 - (d + 1) + 1) = bsum f (64 - (d + 1)) + f (64 - (d + 1)) * 2 ^ (64 - (d + 1)) from rfl, show 63 - d = 64 - (d + 1) from by omega, Int.pow_succ, Int.mul_add, Int.mul_comm (f _) _, Int.mul_assoc, Int.mul_comm 2 (up f d)]
    omega
theorem up_all (f : Nat → Int) : up f 64 = bsum f 64 := by
  rw [up_sum f 64 (by omega)]
  simp [bsum]
set_option maxRecDepth 100000 in
set_option maxHeartbeats 2000000 in
theorem number_any (f : Nat → Int) (hf : ∀ i, 0 ≤ f i ∧ f i ≤ 1) (w : World) : Calls Try.prog 56 #[.agg (row64 f).toArray] w fun e w' => e = .returned (.int .i64 (wrap64 (bsum f 64))) ∧ Below w.heap.size w w' := by
  have HF := Lib.hid hf
  clear hf
  go_enter Try.func56, Try.ntmps56
  go_wp2
  go_loop [3, 4] (fun u i => ∃ k : Nat, k ≤ 64 ∧ i = .int .i64 ((k : Int) - 1) ∧ u = .int .u64 (up f (64 - k))) (fun _ i => ((intOf i) + 1).toNat)
  case atStart => exact ⟨64, by omega, rfl, rfl⟩
  case round =>
    obtain ⟨k, hk, rfl, rfl⟩ := hrel
    obtain ⟨U, hU⟩ : ∃ U, up f (64 - k) = U := ⟨_, rfl⟩
    have hub := up_bd HF.out (64 - k)
    rw [hU] at hub
    rw [hU]
    have HU := Lib.hid hU
    clear hU
    obtain ⟨u0, u1⟩ := hub
    by_cases h0 : 0 < k
    · obtain ⟨q, rfl⟩ : ∃ q, k = q + 1 := ⟨k - 1, by omega⟩
      have u2 : U ≤ 9223372036854775807 := by
        have h1 : (2 : Int) ^ (64 - (q + 1)) ≤ 2 ^ 63 := pow_mono (by omega)
        have h2 : (2 : Int) ^ 63 = 9223372036854775808 := by decide
        omega
      clear u1
      have hfq := HF.out q
      have hc : (w.alloc (.cells (row64 f).toArray 38)).cell? ⟨w.heap.size, q, none⟩ = some (.int .i64 (f q)) := (Blk.made rfl 38 (row64 f)).cell (row_get f (by omega))
      obtain ⟨x, hx⟩ : ∃ x, f q = x := ⟨_, rfl⟩
      rw [hx] at hfq hc
      obtain ⟨x0, x1⟩ := hfq
      have HX := Lib.hid hx
      clear hx
      go_wp2
      go_round
      case rel => exact ⟨q, by omega, by go_num, by rw [show 64 - q = (64 - (q + 1)) + 1 from by omega, up, HU.out, show 63 - (64 - (q + 1)) = q from by omega, HX.out]⟩
      case measure => simp [intOf] <;> omega
    · have hk0 : k = 0 := by omega
      subst hk0
      go_wp2
      go_ret
      refine ⟨ret1 ?_, (Below.refl _ _).alloc (Nat.le_refl _) _⟩
      rw [← HU.out, up_all]
theorem row_next (g : Nat → Int) (k : Nat) {v : Int} (hv : v = g k) : row64 (fun j => if j = k then v else if j < k then g j else 0) = row64 (fun j => if j < k + 1 then g j else 0) := by
  apply row_congr
  intro j hj
  by_cases h1 : j = k
  · subst h1
    rw [if_pos rfl, if_pos (by omega), hv]
  · rw [if_neg h1]
    by_cases h2 : j < k
    · rw [if_pos h2, if_pos (by omega)]
    · rw [if_neg h2, if_neg (by omega)]
theorem row_put {w : World} {Z k : Nat} {g : Nat → Int} {v : Int} (h : Blk w Z 38 (row64 fun j => if j < k then g j else 0)) (hv : v = g k) : Blk (w.setCell ⟨Z, k, none⟩ (.int .i64 v)) Z 38 (row64 fun j => if j < k + 1 then g j else 0) := by
  have h2 := h.set_ k (.int .i64 v)
  rw [row_set, row_next _ _ hv] at h2
  exact h2
/-- What a function that hands back a number and makes memory leaves. -/
def Num (n : Int) (w : World) (e : Ending) (w' : World) : Prop := e = .returned (.int .i64 n) ∧ Below w.heap.size w w'
theorem int_eq {a b : Int} (h : a = b) : Value.int .i64 a = Value.int .i64 b := by rw [h]
theorem addb_01 (x y : Nat → Int) (i : Nat) : 0 ≤ addb x y i ∧ addb x y i ≤ 1 := by unfold addb; omega
theorem below_drewN {w w1 : World} (h : Below w.heap.size w w1) (n : Nat) : Below w.heap.size w (w1.drewN n) := ((Kp.of_below (S := fun _ => False) h).drewN n).below (fun _ _ h => h)
set_option maxRecDepth 100000 in
set_option maxHeartbeats 4000000 in
theorem radd_any (a b : Int) (w : World) : Calls Try.prog 17 #[.int .i64 a, .int .i64 b] w (Num (wrap64 (a + b)) w) := by
  go_enter Try.func17, Try.ntmps17
  go_wp2_with (first
    | (go_at_call 28; (with_reducible refine (bits_any a _).mono ?_); rintro e w1 ⟨rfl, hb1⟩; have HB1 := Lib.hid hb1; clear hb1)
    | (go_at_call 28; (with_reducible refine (bits_any b _).mono ?_); rintro e w2 ⟨rfl, hb2⟩; have HB2 := Lib.hid hb2; clear hb2)
    | (refine wpList_store_arr rfl rfl (.tmp 5) (.tmp 12) rfl w2.heap.size rfl (fun _ => 0) (ibit a) (by exact (Blk.made rfl 38 (row64 fun _ => 0)).alloc _) rfl ?_; intro w3 hb3 hk3 hs3; have H3 := Lib.hid (And.intro hb3 (And.intro hk3 hs3)); clear hb3 hk3 hs3)
    | (refine wpList_store_arr rfl rfl (.tmp 6) (.tmp 14) rfl (w2.heap.size + 1) rfl (fun _ => 0) (ibit b) (by exact (Blk.made (by simp) 38 (row64 fun _ => 0)).kp H3.out.2.1 (fun e => by omega)) rfl ?_; intro w4 hb4 hk4 hs4; have H4 := Lib.hid (And.intro hb4 (And.intro hk4 hs4)); clear hb4 hk4 hs4))
  have hsz : w.heap.size ≤ w2.heap.size := Nat.le_trans HB1.out.size HB2.out.size
  have hs4 : w4.heap.size = w2.heap.size + 2 := by have h1 := H4.out.2.2; have h2 := H3.out.2.2; rw [h1, h2]; simp
  have hbw2 : Below w.heap.size w w2 := HB1.out.trans (HB2.out.mono HB1.out.size)
  have hbw3 : Below w.heap.size w w3 := kp_below ((hbw2.alloc hsz _).alloc (by simp; omega) _) H3.out.2.1 (fun b hb e => by omega)
  have hbw4 : Below w.heap.size w w4 := kp_below hbw3 H4.out.2.1 (fun b hb e => by omega)
  have HW := Lib.hid (And.intro hbw4 hs4)
  clear hs4 hbw2 hbw3 hbw4
  go_loopw [8, 9] (fun c i wr => ∃ k : Nat, k ≤ 64 ∧ i = .int .i64 k ∧ c = .int .i64 (carry (ibit a) (ibit b) k) ∧ Blk wr w2.heap.size 38 (row64 (ibit a)) ∧ Blk wr (w2.heap.size + 1) 38 (row64 (ibit b)) ∧ Blk wr w4.heap.size 38 (row64 fun j => if j < k then addb (ibit a) (ibit b) j else 0) ∧ Below w.heap.size w wr) (fun _ i _ => 64 - (intOf i).toNat)
  case atStart =>
    refine ⟨0, by omega, rfl, rfl, ?_, ?_, ?_, HW.out.1.alloc (by have := HW.out.2; omega) _⟩
    · exact (H3.out.1.kp H4.out.2.1 (fun e => by omega)).alloc _
    · exact H4.out.1.alloc _
    · exact Blk.made rfl 38 (row64 fun _ => 0)
  case round =>
    obtain ⟨k, hk, rfl, rfl, hb0, hb1, hb2, hbl⟩ := hrel
    have H5 := Lib.hid (And.intro hb0 (And.intro hb1 (And.intro hb2 hbl)))
    have hcl := carry_lo (ibit_lo a) (ibit_lo b) k
    obtain ⟨c, hc⟩ : ∃ c, carry (ibit a) (ibit b) k = c := ⟨_, rfl⟩
    rw [hc] at hcl ⊢
    by_cases hlt : k < 64
    · have hx := hb0.cell (row_get _ hlt)
      have hy := hb1.cell (row_get _ hlt)
      have hz := hb2.cell (row_get _ hlt)
      rw [if_neg (Nat.lt_irrefl k)] at hz
      have hf := hb2.frozen k
      have hx1 := ibit_lo a k
      have hy1 := ibit_lo b k
      obtain ⟨S, hS⟩ : ∃ S, ibit a k + ibit b k + c = S := ⟨_, rfl⟩
      have HS : Hid (carry (ibit a) (ibit b) (k + 1) = S / 2 ∧ addb (ibit a) (ibit b) k = S % 2) := by
        unfold addb
        rw [carry, hc, hS]
        exact ⟨rfl, rfl⟩
      have hs0 : 0 ≤ S := by omega
      have hs9 : S ≤ 3 := by omega
      have e1 : IntKind.i64.wrap (ibit a k + ibit b k) = ibit a k + ibit b k := IntWalk.i64_in _ (by omega)
      have e2 : IntKind.i64.wrap (ibit a k + ibit b k + c) = S := by rw [hS]; exact IntWalk.i64_in _ (by omega)
      have hk0 : (0 : Int) ≤ (k : Int) := by omega
      have hk64 : (k : Int) < 64 := by omega
      clear hb0 hb1 hb2 hbl hS hc hcl hx1 hy1
      go_wp2
      go_quiet (fail)
      clear e1 e2
      go_wp2
      go_roundw
      case rel =>
        obtain ⟨g0, g1, g2, gb⟩ := H5.out
        refine ⟨k + 1, by omega, by go_num, by rw [HS.out.1], ?_, ?_, ?_, ?_⟩
        · exact (g0.drewN _).far (by have := HW.out.2; show w2.heap.size ≠ w4.heap.size; omega) _
        · exact (g1.drewN _).far (by have := HW.out.2; show w2.heap.size + 1 ≠ w4.heap.size; omega) _
        · exact row_put (g2.drewN _) HS.out.2.symm
        · exact (below_drewN gb _).setCell (by have := HW.out.2; show _ ≤ w4.heap.size; omega) _
      case measure => simp [intOf]; omega
    · have hk64 : k = 64 := by omega
      obtain ⟨g0, g1, g2, gb⟩ := H5.out
      have e : row64 (fun j => if j < k then addb (ibit a) (ibit b) j else 0) = row64 (addb (ibit a) (ibit b)) := row_congr fun i hi => by rw [if_pos (by omega)]
      rw [e] at g2
      have G2 := Lib.hid g2
      have GB := Lib.hid gb
      clear hb0 hb1 hb2 hbl e g2 gb g0 g1 hc hcl hk64
      go_wp2_with (first
        | (refine wpList_load_arr rfl (.tmp 7) rfl w4.heap.size rfl _ G2.out ?_)
        | (go_at_call 56; refine (number_any _ (addb_01 _ _) _).mono ?_; rintro e w5 ⟨rfl, hb5⟩; have HB5 := Lib.hid hb5; clear hb5))
      go_ret
      exact ⟨ret1 (addb_wrap a b), GB.out.trans (HB5.out.mono GB.out.size)⟩
theorem row_put2 {w : World} {Z k : Nat} {g h : Nat → Int} {v : Int} (hb : Blk w Z 38 (row64 fun j => if j < k then g j else h j)) (hv : v = g k) : Blk (w.setCell ⟨Z, k, none⟩ (.int .i64 v)) Z 38 (row64 fun j => if j < k + 1 then g j else h j) := by
  have h2 := hb.set_ k (.int .i64 v)
  have e : row64 (fun j => if j = k then v else if j < k then g j else h j) = row64 (fun j => if j < k + 1 then g j else h j) := by
    apply row_congr
    intro j hj
    by_cases h1 : j = k
    · subst h1
      rw [if_pos rfl, if_pos (by omega), hv]
    · rw [if_neg h1]
      by_cases h2 : j < k
      · rw [if_pos h2, if_pos (by omega)]
      · rw [if_neg h2, if_neg (by omega)]
  rw [row_set, e] at h2
  exact h2
set_option maxRecDepth 100000 in
set_option maxHeartbeats 4000000 in
theorem rnot_any (a : Int) (w : World) : Calls Try.prog 27 #[.int .i64 a] w (Num (wrap64 (-a - 1)) w) := by
  go_enter Try.func27, Try.ntmps27
  go_wp2_with (first
    | (go_at_call 28; refine (bits_any a _).mono ?_; rintro e w1 ⟨rfl, hb1⟩; have HB1 := Lib.hid hb1; clear hb1)
    | (refine wpList_store_arr rfl rfl (.tmp 3) (.tmp 6) rfl w1.heap.size rfl (fun _ => 0) (ibit a) (by exact Blk.made rfl 38 (row64 fun _ => 0)) rfl ?_; intro w3 hb3 hk3 hs3; have H3 := Lib.hid (And.intro hb3 (And.intro hk3 hs3)); clear hb3 hk3 hs3))
  have hsz : w.heap.size ≤ w1.heap.size := HB1.out.size
  have hbw3 : Below w.heap.size w w3 := kp_below (HB1.out.alloc hsz _) H3.out.2.1 (fun b hb e => by omega)
  have HW := Lib.hid hbw3
  clear hbw3
  go_loopw [4] (fun i wr => ∃ k : Nat, k ≤ 64 ∧ i = .int .i64 k ∧ Blk wr w1.heap.size 38 (row64 fun j => if j < k then 1 - ibit a j else ibit a j) ∧ Below w.heap.size w wr) (fun i _ => 64 - (intOf i).toNat)
  case atStart => exact ⟨0, by omega, rfl, H3.out.1, HW.out⟩
  case round =>
    obtain ⟨k, hk, rfl, hb0, hbl⟩ := hrel
    have H5 := Lib.hid (And.intro hb0 hbl)
    by_cases hlt : k < 64
    · have hx := hb0.cell (row_get _ hlt)
      rw [if_neg (Nat.lt_irrefl k)] at hx
      have hf := hb0.frozen k
      have hx1 := ibit_lo a k
      obtain ⟨x0, x1⟩ := hx1
      clear hb0 hbl
      go_wp2
      go_roundw
      case rel =>
        obtain ⟨g0, gb⟩ := H5.out
        exact ⟨k + 1, by omega, by go_num, row_put2 g0 rfl, gb.setCell (by exact hsz) _⟩
      case measure => simp [intOf]; omega
    · have hk64 : k = 64 := by omega
      obtain ⟨g0, gb⟩ := H5.out
      have e : row64 (fun j => if j < k then 1 - ibit a j else ibit a j) = row64 (fun j => 1 - ibit a j) := row_congr fun i hi => by rw [if_pos (by omega)]
      rw [e] at g0
      have G2 := Lib.hid g0
      have GB := Lib.hid gb
      clear hb0 hbl e gb g0 hk64
      go_wp2_with (first
        | (refine wpList_load_arr rfl (.tmp 3) rfl w1.heap.size rfl _ G2.out ?_)
        | (go_at_call 56; refine (number_any _ (fun i => by have := ibit_lo a i; omega) _).mono ?_; rintro e w5 ⟨rfl, hb5⟩; have HB5 := Lib.hid hb5; clear hb5))
      go_ret
      exact ⟨ret1 (notb_wrap a), GB.out.trans (HB5.out.mono GB.out.size)⟩
theorem rneg_any (a : Int) (w : World) : Calls Try.prog 19 #[.int .i64 a] w (Num (wrap64 (-a)) w) := by
  go_enter Try.func19, Try.ntmps19
  go_wp2_with (first
    | (go_at_call 27; refine (rnot_any a _).mono ?_; rintro e w1 ⟨rfl, hb1⟩; have HB1 := Lib.hid hb1; clear hb1)
    | (go_at_call 17; refine (radd_any _ 1 _).mono ?_; rintro e w2 ⟨rfl, hb2⟩; have HB2 := Lib.hid hb2; clear hb2))
  go_ret
  exact ⟨ret1 (by rw [wrap64_add_l]; congr 1; omega), HB1.out.trans (HB2.out.mono HB1.out.size)⟩
set_option maxRecDepth 100000 in
set_option maxHeartbeats 4000000 in
theorem rmul_any (a b : Int) (w : World) : Calls Try.prog 18 #[.int .i64 a, .int .i64 b] w (Num (wrap64 (a * b)) w) := by
  obtain ⟨U, hU⟩ : ∃ U, b % 18446744073709551616 = U := ⟨_, rfl⟩
  have HU := Lib.hid hU
  clear hU
  go_enter Try.func18, Try.ntmps18
  go_wp2_with (first
    | (go_at_call 28; refine (bits_any b _).mono ?_; rintro e w1 ⟨rfl, hb1⟩; have HB1 := Lib.hid hb1; clear hb1)
    | (refine wpList_store_arr rfl rfl (.tmp 6) (.tmp 9) rfl w1.heap.size rfl (fun _ => 0) (ibit b) (by exact Blk.made rfl 38 (row64 fun _ => 0)) rfl ?_; intro w3 hb3 hk3 hs3; have H3 := Lib.hid (And.intro hb3 (And.intro hk3 hs3)); clear hb3 hk3 hs3))
  have hsz : w.heap.size ≤ w1.heap.size := HB1.out.size
  have hbw3 : Below w.heap.size w w3 := kp_below (HB1.out.alloc hsz _) H3.out.2.1 (fun b hb e => by omega)
  have HW := Lib.hid hbw3
  clear hbw3
  go_loopw [5, 7] (fun o i wr => ∃ k : Nat, k ≤ 64 ∧ i = .int .i64 ((k : Int) - 1) ∧ o = .int .i64 (wrap64 (a * (U / 2 ^ k))) ∧ Blk wr w1.heap.size 38 (row64 (ibit b)) ∧ Below w.heap.size w wr) (fun _ i _ => ((intOf i) + 1).toNat)
  case atStart =>
    refine ⟨64, by omega, rfl, ?_, H3.out.1, HW.out⟩
    have : U / 2 ^ 64 = 0 := by have := HU.out; rw [pow64]; omega
    rw [this, Int.mul_zero]
    exact int_eq (by unfold wrap64; omega)
  case round =>
    obtain ⟨k, hk, rfl, rfl, hb0, hbl⟩ := hrel
    have H5 := Lib.hid (And.intro hb0 hbl)
    by_cases h0 : 0 < k
    · obtain ⟨q, rfl⟩ : ∃ q, k = q + 1 := ⟨k - 1, by omega⟩
      have hx := hb0.cell (row_get _ (show q < 64 by omega))
      have hbit : ibit b q = ibit U q := by rw [← HU.out]; exact (ibit_mod b (by omega)).symm
      have hmr := mul_round a U q
      rw [← hbit] at hmr
      obtain ⟨P, hP⟩ : ∃ P, a * (U / 2 ^ (q + 1)) = P := ⟨_, rfl⟩
      rw [hP] at hmr ⊢
      have HM := Lib.hid hmr
      have hlt1 := hb0.lt
      clear hmr hP hbit hb0 hbl
      rcases ibit_01 b q with hbq | hbq
      · rw [hbq] at hx
        have HQ := Lib.hid hbq
        clear hbq
        go_wp2_with (go_at_call 17; refine (radd_any _ _ _).mono ?_; rintro e w5 ⟨rfl, hb5⟩; have hx5 := (hb5.cell (p := ⟨w1.heap.size, q, none⟩) hlt1).trans hx; have HB5 := Lib.hid hb5; clear hb5)
        go_roundw
        case rel =>
          obtain ⟨g0, gb⟩ := H5.out
          refine ⟨q, by omega, by go_num, ?_, g0.below HB5.out hlt1, gb.trans (HB5.out.mono gb.size)⟩
          rw [HM.out, HQ.out]
          exact int_eq (by unfold wrap64; simp; omega)
        case measure => simp [intOf] <;> omega
      · rw [hbq] at hx
        have HQ := Lib.hid hbq
        clear hbq
        go_wp2_with (first
          | (go_at_call 17; (with_reducible refine (radd_any (wrap64 P) (wrap64 P) _).mono ?_); rintro e w5 ⟨rfl, hb5⟩; have hx5 := (hb5.cell (p := ⟨w1.heap.size, q, none⟩) hlt1).trans hx; have HB5 := Lib.hid hb5; clear hb5)
          | (go_at_call 17; (with_reducible refine (radd_any _ a _).mono ?_); rintro e w6 ⟨rfl, hb6⟩; have HB6 := Lib.hid hb6; clear hb6))
        go_roundw
        case rel =>
          obtain ⟨g0, gb⟩ := H5.out
          have h6 := HB5.out.trans (HB6.out.mono HB5.out.size)
          refine ⟨q, by omega, by go_num, ?_, g0.below h6 hlt1, gb.trans (h6.mono gb.size)⟩
          rw [HM.out, HQ.out]
          exact int_eq (by unfold wrap64; simp; omega)
        case measure => simp [intOf] <;> omega
    · have hk0 : k = 0 := by omega
      subst hk0
      have GB := H5.out.2
      have HGB := Lib.hid GB
      clear hb0 hbl GB
      go_wp2
      go_ret
      refine ⟨ret1 ?_, HGB.out⟩
      rw [← HU.out, Int.pow_zero, Int.ediv_one]
      apply wrap64_congr
      rw [Int.mul_emod, Int.emod_emod, ← Int.mul_emod]
end Go.Proofs.Ytcjmoobdoinbkaa
