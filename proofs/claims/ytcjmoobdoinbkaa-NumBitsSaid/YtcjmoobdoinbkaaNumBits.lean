/- dreylaw01.NumBits: for every a and b the call returns true and its arguments read as before: the statement Rows.NumBitsSaid. No condition. -/
import Derived.Test.YtcjmoobdoinbkaaReckons
import Derived.Test.YtcjmoobdoinbkaaShift
import Derived.Test.YtcjmoobdoinbkaaRows
import Derived.Deep.CutBlock
import Derived.Deep.DeepCutAuto
import Derived.Deep.CutRange
import Derived.Deep.RegionHeld3
import Derived.ProofKit
import Derived.OpenShut
import Derived.Below
import Derived.Lib.SmallJoins
import Derived.ChangeSame
namespace Go.Proofs.Ytcjmoobdoinbkaa
open Go.RowKit
set_option linter.unusedVariables false
/-- The last six bits, added up. -/
theorem six_bits (b : Int) : ibit b 0 + 2 * ibit b 1 + 4 * ibit b 2 + 8 * ibit b 3 + 16 * ibit b 4 + 32 * ibit b 5 = b % 64 := by
  have h := bsum_bits b 6
  simp only [bsum] at h
  rw [show (2 : Int) ^ 6 = 64 from by decide] at h
  rw [← h]
  simp
  omega
theorem shl_law (a b : Int) : wrap64 (bsum (shv a (b % 64) 0) 64) = wrap64 (a * 2 ^ (b % 64).toNat) := by
  obtain ⟨k, hk⟩ := Int.eq_ofNat_of_zero_le (show 0 ≤ b % 64 by omega)
  rw [hk, ← bsum_wrap (a * 2 ^ _)]
  congr 1
  apply bsum_congr
  intro i hi
  rw [show ((k : Nat) : Int).toNat = k from rfl, ibit_shl]
  unfold shv
  by_cases h : i < k
  · rw [if_pos h, if_neg (by omega), if_pos (by omega)]
  · rw [if_neg h, if_pos (by omega), show ((i : Int) - (k : Int)).toNat = i - k from by omega]
theorem shr_law (a b : Int) (ha : I64 a) : wrap64 (bsum (shv a (-(b % 64)) (ibit a 63)) 64) = a / 2 ^ (b % 64).toNat := by
  obtain ⟨k, hk⟩ := Int.eq_ofNat_of_zero_le (show 0 ≤ b % 64 by omega)
  have hq : wrap64 (a / 2 ^ k) = a / 2 ^ k := by
    apply wrap64_id
    have h1 := pow_pos' k
    obtain ⟨a1, a2⟩ := ha
    constructor
    · rw [Int.le_ediv_iff_mul_le h1]
      have : (1 : Int) ≤ 2 ^ k := h1
      have := Int.mul_le_mul_of_nonneg_left this (show (0 : Int) ≤ 9223372036854775808 by omega)
      omega
    · rcases Int.lt_or_le a 0 with h | h
      · have := Int.ediv_neg_of_neg_of_pos h h1
        omega
      · have := Int.ediv_le_self (2 ^ k) h
        omega
  rw [hk, show ((k : Nat) : Int).toNat = k from rfl, ← hq, ← bsum_wrap (a / 2 ^ k)]
  congr 1
  apply bsum_congr
  intro i hi
  rw [ibit_shr]
  unfold shv
  by_cases h : k + i < 64
  · rw [if_pos (by omega), show ((i : Int) - -(k : Int)).toNat = k + i from by omega]
  · rw [if_neg (by omega)]
    by_cases h0 : k = 0
    · omega
    · rw [if_neg (by omega)]
      exact (ibit_high a ha (by omega)).symm
theorem lsr_law (a b : Int) : wrap64 (bsum (shv a (-(b % 64)) 0) 64) = wrap64 (a % 18446744073709551616 / 2 ^ (b % 64).toNat) := by
  obtain ⟨k, hk⟩ := Int.eq_ofNat_of_zero_le (show 0 ≤ b % 64 by omega)
  rw [hk, show ((k : Nat) : Int).toNat = k from rfl, ← bsum_wrap (_ / 2 ^ k)]
  congr 1
  apply bsum_congr
  intro i hi
  rw [ibit_shr]
  unfold shv
  by_cases h : k + i < 64
  · rw [if_pos (by omega), ibit_mod a h, show ((i : Int) - -(k : Int)).toNat = k + i from by omega]
  · rw [if_neg (by omega), ibit_big _ (by omega) (by omega) (by omega)]
    split <;> rfl
theorem below_step {n X : Nat} {v : Value} {w wp w' : World} (hb : Below wp.heap.size wp w') (h : wp.cell? ⟨X, 63, none⟩ = some v ∧ X < wp.heap.size ∧ n ≤ wp.heap.size ∧ Below n w wp) : w'.cell? ⟨X, 63, none⟩ = some v ∧ X < w'.heap.size ∧ n ≤ w'.heap.size ∧ Below n w w' :=
  ⟨(hb.cell (p := ⟨X, 63, none⟩) h.2.1).trans h.1, Nat.lt_of_lt_of_le h.2.1 hb.size, Nat.le_trans h.2.2.1 hb.size, h.2.2.2.trans (hb.mono h.2.2.1)⟩
theorem below_drew' {n X : Nat} {v : Value} {w wp : World} (h : wp.cell? ⟨X, 63, none⟩ = some v ∧ X < wp.heap.size ∧ n ≤ wp.heap.size ∧ Below n w wp) : wp.drew.cell? ⟨X, 63, none⟩ = some v ∧ X < wp.drew.heap.size ∧ n ≤ wp.drew.heap.size ∧ Below n w wp.drew :=
  ⟨h.1, h.2.1, h.2.2.1, h.2.2.2.drew⟩
set_option maxRecDepth 100000 in
set_option maxHeartbeats 16000000 in
theorem numBits_guard (a b : Int) (wa : (Lit.int .i64 a).wf = true) (wb : (Lit.int .i64 b).wf = true) (w : World) : Calls Try.prog 8 #[.int .i64 a, .int .i64 b] w fun e w' => e = .returned (.bool true) ∧ Below w.heap.size w w' := by
  have ia := wf_i64 wa
  obtain ⟨K, hK⟩ : ∃ K, b % 64 = K := ⟨_, rfl⟩
  have k0 : 0 ≤ K := by omega
  have k1 : K ≤ 63 := by omega
  have kl : ∀ w, Calls Try.prog 33 #[.int .i64 a, .int .i64 K, .int .i64 0] w (Num (wrap64 (a * 2 ^ K.toNat)) w) := fun w => by
    have h := shift_any a K 0 w (by omega) (by omega) (by omega)
    rwa [← hK, shl_law, hK] at h
  have kr : ∀ w, Calls Try.prog 33 #[.int .i64 a, .int .i64 (-K), .int .i64 (ibit a 63)] w (Num (a / 2 ^ K.toNat) w) := fun w => by
    have h := shift_any a (-K) (ibit a 63) w (by omega) (by omega) (ibit_lo a 63)
    rwa [← hK, shr_law a b ia, hK] at h
  have kg : ∀ w, Calls Try.prog 33 #[.int .i64 a, .int .i64 (-K), .int .i64 0] w (Num (wrap64 (a % 18446744073709551616 / 2 ^ K.toNat)) w) := fun w => by
    have h := shift_any a (-K) 0 w (by omega) (by omega) (by omega)
    rwa [← hK, lsr_law a b, hK] at h
  have ml := fun w => left_any a b w
  have mr := fun w => right_any a b w
  have mg := fun w => logical_any a b w
  rw [hK] at ml mr mg
  have KL := Lib.hid kl
  have KR := Lib.hid kr
  have KG := Lib.hid kg
  have ML := Lib.hid ml
  have MR := Lib.hid mr
  have MG := Lib.hid mg
  have HK := Lib.hid hK
  clear kl kr kg ml mr mg hK wa wb ia
  go_enter Try.func8, Try.ntmps8
  go_wp2_with (first
    | (go_at_call 12; refine (reckons_any _).mono ?_; rintro e w0 ⟨rfl, hb0⟩; have HB0 := Lib.hid hb0; clear hb0)
    | (go_at_call 29; refine (and_any _ _ _).mono ?_; rintro e w' ⟨rfl, rfl⟩)
    | (go_at_call 30; refine (or_any _ _ _).mono ?_; rintro e w' ⟨rfl, rfl⟩)
    | (go_at_call 31; refine (xor_any _ _ _).mono ?_; rintro e w' ⟨rfl, rfl⟩)
    | (go_at_call 28; (with_reducible refine (bits_any a _).mono ?_); rintro e w1 ⟨rfl, hb1⟩; have HB1 := Lib.hid hb1; clear hb1)
    | (go_at_call 28; (with_reducible refine (bits_any b _).mono ?_); rintro e w2 ⟨rfl, hb2⟩; have HB2 := Lib.hid hb2; clear hb2)
    | (go_at_call 28; (with_reducible refine (bits_any (bits .and .i64 a b) _).mono ?_); rintro e w5 ⟨rfl, hb5⟩; have HB5 := Lib.hid hb5; clear hb5)
    | (go_at_call 28; (with_reducible refine (bits_any (bits .or .i64 a b) _).mono ?_); rintro e w6 ⟨rfl, hb6⟩; have HB6 := Lib.hid hb6; clear hb6)
    | (go_at_call 28; (with_reducible refine (bits_any (bits .xor .i64 a b) _).mono ?_); rintro e w7 ⟨rfl, hb7⟩; have HB7 := Lib.hid hb7; clear hb7)
    | (refine wpList_store_arr rfl rfl (.tmp 5) (.tmp 15) rfl w2.heap.size rfl (fun _ => 0) (ibit a) (by exact (Blk.made rfl 38 (row64 fun _ => 0)).alloc _) rfl ?_; intro w3 hb3 hk3 hs3; have H3 := Lib.hid (And.intro hb3 (And.intro hk3 hs3)); clear hb3 hk3 hs3)
    | (refine wpList_store_arr rfl rfl (.tmp 6) (.tmp 17) rfl (w2.heap.size + 1) rfl (fun _ => 0) (ibit b) (by exact (Blk.made (by simp) 38 (row64 fun _ => 0)).kp H3.out.2.1 (fun e => by omega)) rfl ?_; intro w4 hb4 hk4 hs4; have H4 := Lib.hid (And.intro hb4 (And.intro hk4 hs4)); clear hb4 hk4 hs4)
    | (refine wpList_store_arr rfl rfl (.tmp 7) (.tmp 21) rfl w7.heap.size rfl (fun _ => 0) (ibit (bits .and .i64 a b)) (by exact ((Blk.made rfl 38 (row64 fun _ => 0)).alloc _).alloc _) rfl ?_; intro w8 hb8 hk8 hs8; have H8 := Lib.hid (And.intro hb8 (And.intro hk8 hs8)); clear hb8 hk8 hs8)
    | (refine wpList_store_arr rfl rfl (.tmp 8) (.tmp 25) rfl (w7.heap.size + 1) rfl (fun _ => 0) (ibit (bits .or .i64 a b)) (by exact ((Blk.made (by simp) 38 (row64 fun _ => 0)).alloc _).kp H8.out.2.1 (fun e => by omega)) rfl ?_; intro w9 hb9 hk9 hs9; have H9 := Lib.hid (And.intro hb9 (And.intro hk9 hs9)); clear hb9 hk9 hs9)
    | (refine wpList_store_arr rfl rfl (.tmp 9) (.tmp 29) rfl (w7.heap.size + 1 + 1) rfl (fun _ => 0) (ibit (bits .xor .i64 a b)) (by exact ((Blk.made (by simp) 38 (row64 fun _ => 0)).kp H8.out.2.1 (fun e => by omega)).kp H9.out.2.1 (fun e => by omega)) rfl ?_; intro w10 hb10 hk10 hs10; have H10 := Lib.hid (And.intro hb10 (And.intro hk10 hs10)); clear hb10 hk10 hs10))
  have s0 := HB0.out.size
  have s1 := HB1.out.size
  have s2 := HB2.out.size
  have s3 : w3.heap.size = w2.heap.size + 1 + 1 := by have := H3.out.2.2; simpa using this
  have s4 : w4.heap.size = w3.heap.size := H4.out.2.2
  have s5 := HB5.out.size
  have s6 := HB6.out.size
  have s7 := HB7.out.size
  have s8 : w8.heap.size = w7.heap.size + 1 + 1 + 1 := by have := H8.out.2.2; simpa using this
  have s9 : w9.heap.size = w8.heap.size := H9.out.2.2
  have s10 : w10.heap.size = w9.heap.size := H10.out.2.2
  have b2 : Below w.heap.size w w2 := (HB0.out.trans (HB1.out.mono s0)).trans (HB2.out.mono (by omega))
  have b3 : Below w.heap.size w w3 := kp_below ((b2.alloc (by omega) _).alloc (by simp; omega) _) H3.out.2.1 (fun b hb e => by omega)
  have b4 : Below w.heap.size w w4 := kp_below b3 H4.out.2.1 (fun b hb e => by omega)
  have b7 : Below w.heap.size w w7 := ((b4.trans (HB5.out.mono (by omega))).trans (HB6.out.mono (by omega))).trans (HB7.out.mono (by omega))
  have b8 : Below w.heap.size w w8 := kp_below (((b7.alloc (by omega) _).alloc (by simp; omega) _).alloc (by simp; omega) _) H8.out.2.1 (fun b hb e => by omega)
  have b9 : Below w.heap.size w w9 := kp_below b8 H9.out.2.1 (fun b hb e => by omega)
  have b10 : Below w.heap.size w w10 := kp_below b9 H10.out.2.1 (fun b hb e => by omega)
  have gX : Blk w10 w2.heap.size 38 (row64 (ibit a)) := ((((((((H3.out.1.kp H4.out.2.1 (fun e => by omega)).below HB5.out (by omega)).below HB6.out (by omega)).below HB7.out (by omega)).alloc _).alloc _).alloc _).kp H8.out.2.1 (fun e => by omega) |>.kp H9.out.2.1 (fun e => by omega) |>.kp H10.out.2.1 (fun e => by omega))
  have gY : Blk w10 (w2.heap.size + 1) 38 (row64 (ibit b)) := (((((((H4.out.1.below HB5.out (by omega)).below HB6.out (by omega)).below HB7.out (by omega)).alloc _).alloc _).alloc _).kp H8.out.2.1 (fun e => by omega) |>.kp H9.out.2.1 (fun e => by omega) |>.kp H10.out.2.1 (fun e => by omega))
  have gA : Blk w10 w7.heap.size 38 (row64 (ibit (bits .and .i64 a b))) := (H8.out.1.kp H9.out.2.1 (fun e => by omega)).kp H10.out.2.1 (fun e => by omega)
  have gO : Blk w10 (w7.heap.size + 1) 38 (row64 (ibit (bits .or .i64 a b))) := H9.out.1.kp H10.out.2.1 (fun e => by omega)
  have gR : Blk w10 (w7.heap.size + 1 + 1) 38 (row64 (ibit (bits .xor .i64 a b))) := H10.out.1
  have HG := Lib.hid (And.intro gX (And.intro gY (And.intro gA (And.intro gO (And.intro gR b10)))))
  have hwX : w.heap.size ≤ w2.heap.size := by omega
  clear s0 s1 s2 s3 s4 s5 s6 s7 s8 s9 s10 b2 b3 b4 b7 b8 b9 b10 gX gY gA gO gR
  go_loopw [30] (fun i wr => ∃ k : Nat, k ≤ 64 ∧ i = .int .i64 k ∧ Blk wr w2.heap.size 38 (row64 (ibit a)) ∧ Blk wr (w2.heap.size + 1) 38 (row64 (ibit b)) ∧ Blk wr w7.heap.size 38 (row64 (ibit (bits .and .i64 a b))) ∧ Blk wr (w7.heap.size + 1) 38 (row64 (ibit (bits .or .i64 a b))) ∧ Blk wr (w7.heap.size + 1 + 1) 38 (row64 (ibit (bits .xor .i64 a b))) ∧ Below w.heap.size w wr) (fun i _ => 64 - (intOf i).toNat)
  case atStart => exact ⟨0, by omega, rfl, HG.out⟩
  case round =>
    obtain ⟨k, hk, rfl, hb1, hb2, hb3, hb4, hb5, hbl⟩ := hrel
    have H := Lib.hid (And.intro hb1 (And.intro hb2 (And.intro hb3 (And.intro hb4 (And.intro hb5 hbl)))))
    by_cases hlt : k < 64
    · have hx := hb1.cell (row_get _ hlt)
      have hy := hb2.cell (row_get _ hlt)
      have h3 := hb3.cell (row_get _ hlt)
      have h4 := hb4.cell (row_get _ hlt)
      have h5 := hb5.cell (row_get _ hlt)
      rw [ibit_and _ _ hlt] at h3
      rw [ibit_or _ _ hlt] at h4
      rw [ibit_xor _ _ hlt] at h5
      have hk0 : (0 : Int) ≤ (k : Int) := by omega
      have hk64 : (k : Int) < 64 := by omega
      rcases ibit_01 a k with hx0 | hx0 <;> rcases ibit_01 b k with hy0 | hy0
      · rw [hx0] at hx h3 h4 h5
        rw [hy0] at hy h3 h4 h5
        have hmx : (max (0 : Int) 0) = 0 := by decide
        rw [hmx] at h4
        clear hx0 hy0 hb1 hb2 hb3 hb4 hb5 hbl hmx
        go_wp2
        go_quiet (fail)
        go_wp2
        go_roundw
        case rel =>
          obtain ⟨g1, g2, g3, g4, g5, gb⟩ := H.out
          exact ⟨k + 1, by omega, by go_num, g1.drewN _, g2.drewN _, g3.drewN _, g4.drewN _, g5.drewN _, below_drewN gb _⟩
        case measure => simp [intOf] <;> omega
      · rw [hx0] at hx h3 h4 h5
        rw [hy0] at hy h3 h4 h5
        have hmx : (max (0 : Int) 1) = 1 := by decide
        rw [hmx] at h4
        clear hx0 hy0 hb1 hb2 hb3 hb4 hb5 hbl hmx
        go_wp2
        go_quiet (fail)
        go_wp2
        go_roundw
        case rel =>
          obtain ⟨g1, g2, g3, g4, g5, gb⟩ := H.out
          exact ⟨k + 1, by omega, by go_num, g1.drewN _, g2.drewN _, g3.drewN _, g4.drewN _, g5.drewN _, below_drewN gb _⟩
        case measure => simp [intOf] <;> omega
      · rw [hx0] at hx h3 h4 h5
        rw [hy0] at hy h3 h4 h5
        have hmx : (max (1 : Int) 0) = 1 := by decide
        rw [hmx] at h4
        clear hx0 hy0 hb1 hb2 hb3 hb4 hb5 hbl hmx
        go_wp2
        go_quiet (fail)
        go_wp2
        go_roundw
        case rel =>
          obtain ⟨g1, g2, g3, g4, g5, gb⟩ := H.out
          exact ⟨k + 1, by omega, by go_num, g1.drewN _, g2.drewN _, g3.drewN _, g4.drewN _, g5.drewN _, below_drewN gb _⟩
        case measure => simp [intOf] <;> omega
      · rw [hx0] at hx h3 h4 h5
        rw [hy0] at hy h3 h4 h5
        have hmx : (max (1 : Int) 1) = 1 := by decide
        rw [hmx] at h4
        clear hx0 hy0 hb1 hb2 hb3 hb4 hb5 hbl hmx
        go_wp2
        go_quiet (fail)
        go_wp2
        go_roundw
        case rel =>
          obtain ⟨g1, g2, g3, g4, g5, gb⟩ := H.out
          exact ⟨k + 1, by omega, by go_num, g1.drewN _, g2.drewN _, g3.drewN _, g4.drewN _, g5.drewN _, below_drewN gb _⟩
        case measure => simp [intOf] <;> omega
    · have hk64 : k = 64 := by omega
      have q9 : decide ((k : Int) < 64) = false := decide_eq_false (by omega)
      have y0 := hb2.cell (row_get (ibit b) (i := 0) (by omega))
      have y1 := hb2.cell (row_get (ibit b) (i := 1) (by omega))
      have y2 := hb2.cell (row_get (ibit b) (i := 2) (by omega))
      have y3 := hb2.cell (row_get (ibit b) (i := 3) (by omega))
      have y4 := hb2.cell (row_get (ibit b) (i := 4) (by omega))
      have y5 := hb2.cell (row_get (ibit b) (i := 5) (by omega))
      have x63 := hb1.cell (row_get (ibit a) (i := 63) (by omega))
      have hX := hb1.lt
      have l0 := ibit_lo b 0
      have l1 := ibit_lo b 1
      have l2 := ibit_lo b 2
      have l3 := ibit_lo b 3
      have l4 := ibit_lo b 4
      have l5 := ibit_lo b 5
      have HS := Lib.hid (six_bits b)
      generalize ibit b 0 = z0 at *
      generalize ibit b 1 = z1 at *
      generalize ibit b 2 = z2 at *
      generalize ibit b 3 = z3 at *
      generalize ibit b 4 = z4 at *
      generalize ibit b 5 = z5 at *
      generalize ibit a 63 = x6 at *
      obtain ⟨l00, l01⟩ := l0
      obtain ⟨l10, l11⟩ := l1
      obtain ⟨l20, l21⟩ := l2
      obtain ⟨l30, l31⟩ := l3
      obtain ⟨l40, l41⟩ := l4
      obtain ⟨l50, l51⟩ := l5
      clear hb1 hb2 hb3 hb4 hb5 hk64
      go_upto_region 11 with fail
      go_cut [11] (fun v wx => v = .int .i64 K ∧ wr = wx)
      case first =>
        go_wp2
        go_meet
        case rel => exact ⟨int_eq (by rw [← HK.out, ← HS.out]), rfl⟩
      case rest =>
        obtain ⟨rfl, rfl⟩ := hcut
        go_wp2
        have eK : IntKind.i64.wrap (-K) = -K := IntWalk.i64_in _ (by omega)
        go_region_held3 (fun w' => w'.cell? ⟨w2.heap.size, 63, none⟩ = some (.int .i64 x6) ∧ w2.heap.size < w'.heap.size ∧ w.heap.size ≤ w'.heap.size ∧ Below w.heap.size w w')
          (first | exact below_step (by assumption) (by assumption) | exact below_drew' (by assumption) | assumption | exact ⟨x63, hX, Nat.le_of_lt (Nat.lt_of_le_of_lt hwX hX), hbl⟩ | exact ⟨x63, hX, Nat.le_of_lt (Nat.lt_of_le_of_lt hwX hX), hbl.drew⟩)
          (first
            | (go_at_call 32; refine (ML.out _).mono ?_; rintro e w' ⟨rfl, rfl⟩)
            | (go_at_call 34; refine (MR.out _).mono ?_; rintro e w' ⟨rfl, rfl⟩)
            | (go_at_call 35; refine (MG.out _).mono ?_; rintro e w' ⟨rfl, rfl⟩)
            | (go_at_call 33; (with_reducible refine (KL.out _).mono ?_); rintro e w' ⟨rfl, hb⟩)
            | (go_at_call 33; (with_reducible refine (KR.out _).mono ?_); rintro e w' ⟨rfl, hb⟩)
            | (go_at_call 33; (with_reducible refine (KG.out _).mono ?_); rintro e w' ⟨rfl, hb⟩))
        all_goals
          go_wp2
          go_ret
          exact ⟨by first | rfl | simp, (by assumption : _ ∧ _ ∧ _ ∧ Below w.heap.size w _).2.2.2⟩
namespace numBits
open Go.ChangeShapes Go.WideShapes Go.ChangeAt Go.RowKit
open Go.ChangeMaps (open_string shut_string)
theorem laidOut : laidOutB Try.prog = true := by kernel_rfl
theorem own : ownKnob Try.prog.godebug = none := by kernel_rfl
set_option maxRecDepth 100000 in
theorem lifted (os : Os) (started : os.Started) (H : Type) (enc : TypeId × Value → H) :
    ReturnsInHanded {} Try.checked os 8 .any (Rows.numBitsSpec.pre6 enc Try.prog Try.f8 Rows.numBitsRow.domain false) (Rows.numBitsSpec.post enc Try.prog Try.f8 false true false false) := by
  refine returnsInHanded_of_change (C := Try.checked) own started (by kernel_rfl) Try.func8
    (ChangeSpec.witness6 (enc := enc) (C := Try.checked) false ⟨#[], #[.int .i64 0, .int .i64 0], []⟩ 8 (by kernel_rfl) (by kernel_rfl) (by kernel_rfl) (by kernel_rfl)) ?_
  intro W base args ds gs before hval0 hW hcnd _
  have hval : ∀ (j : Nat) t v, Try.f8.params[j]? = some t → args[j]? = some v → Value.okWide Try.prog W .any base t v := hval0
  have hW' := hW
  obtain ⟨p, q, hA0, hV, rfl, hfz, hnd⟩ := hW
  have hA : DataW.TrodAll enc Try.prog W 0 (fun _ => true) true Try.f8.params.toList args.toList ds p := hA0
  rw [Try.params8] at hA hval
  obtain ⟨v0, vs0, d0, ds0, p0, q0, hargs, rfl, rfl, h0, r0⟩ := trodAll_cons hA
  obtain ⟨v1, vs1, d1, ds1, p1, q1, rfl, rfl, rfl, h1, r1⟩ := trodAll_cons r0
  obtain ⟨rfl, rfl, rfl⟩ := trodAll_nil r1
  obtain rfl : args = #[v0, v1] := by cases args; simp_all
  obtain ⟨rfl, rfl⟩ := trodVars_none hV
  have k0 := h0
  have lt0 : ∀ x ∈ p0, x.block < W.heap.size := by obtain ⟨m, hm⟩ := k0; exact DataW.trod_lt m _ _ _ hm
  have k1 := h1
  have lt1 : ∀ x ∈ p1, x.block < W.heap.size := by obtain ⟨m, hm⟩ := k1; exact DataW.trod_lt m _ _ _ hm
  obtain ⟨a0, rfl, rfl, rfl, w0⟩ := open_int Try.underlying2 (hval 0 2 v0 rfl rfl) h0
  obtain ⟨a1, rfl, rfl, rfl, w1⟩ := open_int Try.underlying2 (hval 1 2 v1 rfl rfl) h1
  clear hA0 hval0
  refine (numBits_guard a0 a1 w0 w1 W).mono fun e W' ⟨he, bel⟩ => ?_
  subst he
  exact ⟨_, rfl, _, _, _, [], _, [], hW', trodAll_mk1 (shut_bool Try.underlying4 _), (trodAll_cons_mk (Below.trod laidOut (by kernel_rfl) (of_decide_eq_true (by kernel_rfl)) k0 bel lt0) (trodAll_cons_mk (Below.trod laidOut (by kernel_rfl) (of_decide_eq_true (by kernel_rfl)) k1 bel lt1) trodAll_mk0)), rfl, bel.frame _, fun h => by cases h⟩
theorem over : Rows.numBitsRow.holds Try.pinned (OpenSpec.ofChange Rows.numBitsSpec) :=
  OpenClaim.holds_of_wide 8 Try.f8 rfl rfl rfl rfl rfl rfl rfl ⟨rfl, rfl, rfl, rfl, rfl⟩ rfl rfl rfl rfl rfl (by kernel_rfl) Try.func8 (by kernel_rfl)
    (of_decide_eq_true (by kernel_rfl)) (by unfold Func.isWrapper; first | (rw [if_pos (by decide +kernel)]; kernel_rfl) | (rw [if_neg (by decide +kernel)]; exact ⟨rfl, rfl⟩))
    (fun os started H enc _ => lifted os started H enc)
theorem proved : Rows.NumBitsSaid := over
#print axioms proved
end numBits
end Go.Proofs.Ytcjmoobdoinbkaa
