/- dreylaw01.NumLeads: for every s the call returns true and its arguments read as before: the statement Rows.NumLeadsSaid. No condition. -/
import Derived.Test.YtcjmoobdoinbkaaReckons
import Derived.Test.YtcjmoobdoinbkaaRef
import Derived.Test.YtcjmoobdoinbkaaRows
import Derived.Deep.RegionHeld3
import Derived.ProofKit
import Derived.OpenShut
import Derived.Below
import Derived.Lib.SmallJoins
import Derived.ChangeSame
namespace Go.Proofs.Ytcjmoobdoinbkaa
open Go.RowKit
set_option linter.unusedVariables false
theorem empty_yes (s : ByteArray) (h : s.size = 0) : s.toList.isEmpty = true := by
  rw [Lib.toList_data, show s.data.toList = [] from List.eq_nil_of_length_eq_zero (by simpa using h)]; rfl
theorem empty_no (s : ByteArray) (h : 0 < s.size) : s.toList.isEmpty = false := by
  rw [Lib.toList_data]
  have h2 : s.data.toList.length = s.size := by simp
  cases hq : s.data.toList with
  | nil => rw [hq] at h2; simp at h2; omega
  | cons c l => rfl
theorem lead_step2 (X D : Int) : wrap64 (wrap64 (wrap64 X * 10) + D) = wrap64 (X * 10 + D) := lead_step X D
theorem leads_long (s : ByteArray) (w : World) (h : 200 < s.size) : Calls Try.prog 5 #[.string s] w fun e w' => e = .returned (.bool true) ∧ Below w.heap.size w w' := by
  have q : decide (200 < (s.size : Int)) = true := by simp <;> omega
  clear h
  go_enter Try.func5, Try.ntmps5
  go_wp2_with (go_at_call 12; refine (reckons_any _).mono ?_; rintro e w1 ⟨rfl, hb1⟩; have HB1 := Lib.hid hb1; clear hb1)
  go_ret
  exact ⟨rfl, HB1.out⟩
set_option maxRecDepth 100000 in
set_option maxHeartbeats 4000000 in
theorem leads_none_e (s : ByteArray) (w : World) (hs : s.size ≤ 200) (h : s.size = 0) (r : List UInt8) (hr : run ((bys s).drop 0) = r) (hr0 : r.length = 0) (kc : ∀ w, Calls Try.prog 16 #[.string s] w fun e w' => e = .returned (.tuple #[.int .i64 0, .int .i64 0]) ∧ w = w') : Calls Try.prog 5 #[.string s] w fun e w' => e = .returned (.bool true) ∧ Below w.heap.size w w' := by
  have z0 : decide (0 < (s.size : Int)) = false := decide_eq_false (by omega)
  have HR := Lib.hid hr
  have KC := Lib.hid kc
  clear hr kc
  have q0 : decide (200 < (s.size : Int)) = false := by simp <;> omega
  have es := empty_yes s h
  have hle : r.length + 0 ≤ s.size ∨ r.length = 0 := by
    have h1 := run_le ((bys s).drop 0)
    rw [HR.out] at h1
    simp at h1
    omega
  go_enter Try.func5, Try.ntmps5
  go_wp2_with (first
    | (go_at_call 12; refine (reckons_any _).mono ?_; rintro e w1 ⟨rfl, hb1⟩; have HB1 := Lib.hid hb1; clear hb1)
    | (go_at_call 16; refine (KC.out _).mono ?_; rintro e w' ⟨rfl, rfl⟩))
  go_loopw [6, 7] (fun n a wr => ∃ k : Nat, k ≤ r.length ∧ a = .int .i64 ((k : Nat) : Int) ∧ n = .int .i64 (wrap64 (accT (r.take k))) ∧ Below w.heap.size w wr) (fun _ a _ => s.size - (intOf a).toNat)
  case atStart => exact ⟨0, Nat.zero_le _, rfl, by simp [accT, wrap64], HB1.out⟩
  case round =>
    obtain ⟨k, hk, rfl, rfl, hbl⟩ := hrel
    have hlt : ¬ k < r.length := by omega
    · have hkr : k = r.length := by omega
      have hrt : r.take k = r := List.take_of_length_le (by omega)
      have hout : ∀ (h : k < s.size), isD s[k] = false := by
        intro h
        have h1 := run_out ((bys s).drop 0) (by rw [HR.out]; simp; omega)
        obtain ⟨h2, h3⟩ := at_drop s 0 (run ((bys s).drop 0)).length (by rw [HR.out]; simp; omega)
        rw [h3] at h1
        have e4 : s[0 + (run ((bys s).drop 0)).length] = s[k] := by congr 1; rw [HR.out]; omega
        rw [← e4]; exact h1
      have hbl' := Lib.hid hbl
      rw [hrt]
      have t0 : ((k : Int) == 0) = true := by simp <;> omega
      clear hlt hk
      have HO := Lib.hid hout
      clear hrt hkr hout hbl
      rcases Nat.lt_or_ge (k) s.size with hks | hks
      · have hnd : ¬ (48 ≤ (s[k].toNat : Int) ∧ (s[k].toNat : Int) ≤ 57) := of_decide_eq_false (HO.out hks)
        by_cases d1 : 48 ≤ (s[k].toNat : Int)
        · have q1 : decide (48 ≤ (s[k].toNat : Int)) = true := by simpa using d1
          have q2 : decide ((s[k].toNat : Int) ≤ 57) = false := by simp <;> omega
          clear hnd
          go_wp2; all_goals (go_ret; exact ⟨rfl, hbl'.out⟩)
        · have q1 : decide (48 ≤ (s[k].toNat : Int)) = false := by simp <;> omega
          clear hnd
          go_wp2; all_goals (go_ret; exact ⟨rfl, hbl'.out⟩)
      · go_wp2; all_goals (go_ret; exact ⟨rfl, hbl'.out⟩)
set_option maxRecDepth 100000 in
set_option maxHeartbeats 4000000 in
theorem leads_minus_e (s : ByteArray) (w : World) (hs : s.size ≤ 200) (h : (bys s).head? = some 45) (r : List UInt8) (hr : run ((bys s).drop 1) = r) (hr0 : r.length = 0) (kc : ∀ w, Calls Try.prog 16 #[.string s] w fun e w' => e = .returned (.tuple #[.int .i64 0, .int .i64 0]) ∧ w = w') : Calls Try.prog 5 #[.string s] w fun e w' => e = .returned (.bool true) ∧ Below w.heap.size w w' := by
  have hz : 0 < s.size := by
    rcases hs : bys s with _ | ⟨c, l⟩
    · rw [hs] at h; simp at h
    · have : (bys s).length = s.size := by simp
      rw [hs] at this; simp at this; omega
  have he : s[0] = 45 := by
    have : (bys s).head? = some s[0] := by rw [List.head?_eq_getElem?, List.getElem?_eq_getElem (by simpa using hz)]; rfl
    rw [this] at h; simpa using h
  have z0 : decide (0 < (s.size : Int)) = true := by simp; omega
  have z1 : ((s[0].toNat : Int) == 45) = true := by rw [he]; rfl
  clear he h
  have HR := Lib.hid hr
  have KC := Lib.hid kc
  clear hr kc
  have q0 : decide (200 < (s.size : Int)) = false := by simp <;> omega
  have es := empty_no s hz
  have hle : r.length + 1 ≤ s.size ∨ r.length = 0 := by
    have h1 := run_le ((bys s).drop 1)
    rw [HR.out] at h1
    simp at h1
    omega
  go_enter Try.func5, Try.ntmps5
  go_wp2_with (first
    | (go_at_call 12; refine (reckons_any _).mono ?_; rintro e w1 ⟨rfl, hb1⟩; have HB1 := Lib.hid hb1; clear hb1)
    | (go_at_call 16; refine (KC.out _).mono ?_; rintro e w' ⟨rfl, rfl⟩))
  go_loopw [6, 7] (fun n a wr => ∃ k : Nat, k ≤ r.length ∧ a = .int .i64 ((k + 1 : Nat) : Int) ∧ n = .int .i64 (wrap64 (accT (r.take k))) ∧ Below w.heap.size w wr) (fun _ a _ => s.size - (intOf a).toNat)
  case atStart => exact ⟨0, Nat.zero_le _, rfl, by simp [accT, wrap64], HB1.out⟩
  case round =>
    obtain ⟨k, hk, rfl, rfl, hbl⟩ := hrel
    have hlt : ¬ k < r.length := by omega
    · have hkr : k = r.length := by omega
      have hrt : r.take k = r := List.take_of_length_le (by omega)
      have hout : ∀ (h : k + 1 < s.size), isD s[k + 1] = false := by
        intro h
        have h1 := run_out ((bys s).drop 1) (by rw [HR.out]; simp; omega)
        obtain ⟨h2, h3⟩ := at_drop s 1 (run ((bys s).drop 1)).length (by rw [HR.out]; simp; omega)
        rw [h3] at h1
        have e4 : s[1 + (run ((bys s).drop 1)).length] = s[k + 1] := by congr 1; rw [HR.out]; omega
        rw [← e4]; exact h1
      have hbl' := Lib.hid hbl
      rw [hrt]
      have t0 : ((k : Int) + 1 == 1) = true := by simp <;> omega
      clear hlt hk
      have HO := Lib.hid hout
      clear hrt hkr hout hbl
      rcases Nat.lt_or_ge (k + 1) s.size with hks | hks
      · have hnd : ¬ (48 ≤ (s[k + 1].toNat : Int) ∧ (s[k + 1].toNat : Int) ≤ 57) := of_decide_eq_false (HO.out hks)
        by_cases d1 : 48 ≤ (s[k + 1].toNat : Int)
        · have q1 : decide (48 ≤ (s[k + 1].toNat : Int)) = true := by simpa using d1
          have q2 : decide ((s[k + 1].toNat : Int) ≤ 57) = false := by simp <;> omega
          clear hnd
          go_wp2; all_goals (go_ret; exact ⟨rfl, hbl'.out⟩)
        · have q1 : decide (48 ≤ (s[k + 1].toNat : Int)) = false := by simp <;> omega
          clear hnd
          go_wp2; all_goals (go_ret; exact ⟨rfl, hbl'.out⟩)
      · go_wp2; all_goals (go_ret; exact ⟨rfl, hbl'.out⟩)
set_option maxRecDepth 100000 in
set_option maxHeartbeats 4000000 in
theorem leads_minus_f (s : ByteArray) (w : World) (hs : s.size ≤ 200) (h : (bys s).head? = some 45) (r : List UInt8) (hr : run ((bys s).drop 1) = r) (hr0 : 0 < r.length) (kc : ∀ w, Calls Try.prog 16 #[.string s] w fun e w' => e = .returned (.tuple #[.int .i64 (wrap64 (- accT r)), .int .i64 ((r.length + 1 : Nat) : Int)]) ∧ w = w') : Calls Try.prog 5 #[.string s] w fun e w' => e = .returned (.bool true) ∧ Below w.heap.size w w' := by
  have hz : 0 < s.size := by
    rcases hs : bys s with _ | ⟨c, l⟩
    · rw [hs] at h; simp at h
    · have : (bys s).length = s.size := by simp
      rw [hs] at this; simp at this; omega
  have he : s[0] = 45 := by
    have : (bys s).head? = some s[0] := by rw [List.head?_eq_getElem?, List.getElem?_eq_getElem (by simpa using hz)]; rfl
    rw [this] at h; simpa using h
  have z0 : decide (0 < (s.size : Int)) = true := by simp; omega
  have z1 : ((s[0].toNat : Int) == 45) = true := by rw [he]; rfl
  clear he h
  have HR := Lib.hid hr
  have KC := Lib.hid kc
  have kneg : ∀ w, Calls Try.prog 19 #[.int .i64 (wrap64 (accT r))] w (Num (wrap64 (- accT r)) w) := fun w => by
    have h := rneg_any (wrap64 (accT r)) w
    rwa [wrap64_neg] at h
  have KNEG := Lib.hid kneg
  clear kneg
  clear hr kc
  have q0 : decide (200 < (s.size : Int)) = false := by simp <;> omega
  have es := empty_no s hz
  have hle : r.length + 1 ≤ s.size ∨ r.length = 0 := by
    have h1 := run_le ((bys s).drop 1)
    rw [HR.out] at h1
    simp at h1
    omega
  go_enter Try.func5, Try.ntmps5
  go_wp2_with (first
    | (go_at_call 12; refine (reckons_any _).mono ?_; rintro e w1 ⟨rfl, hb1⟩; have HB1 := Lib.hid hb1; clear hb1)
    | (go_at_call 16; refine (KC.out _).mono ?_; rintro e w' ⟨rfl, rfl⟩))
  go_loopw [6, 7] (fun n a wr => ∃ k : Nat, k ≤ r.length ∧ a = .int .i64 ((k + 1 : Nat) : Int) ∧ n = .int .i64 (wrap64 (accT (r.take k))) ∧ Below w.heap.size w wr) (fun _ a _ => s.size - (intOf a).toNat)
  case atStart => exact ⟨0, Nat.zero_le _, rfl, by simp [accT, wrap64], HB1.out⟩
  case round =>
    obtain ⟨k, hk, rfl, rfl, hbl⟩ := hrel
    by_cases hlt : k < r.length
    · have hks : k + 1 < s.size := by omega
      have hin := run_in ((bys s).drop 1) k (by rw [HR.out]; exact hlt)
      have hrk : r[k] = s[k + 1] ∧ isD s[k + 1] = true := by
        obtain ⟨h', e1, e2⟩ := hin
        obtain ⟨h'', e3⟩ := at_drop s 1 k h'
        have e4 : s[1 + k] = s[k + 1] := by congr 1; omega
        have e5 : isD s[k + 1] = true := by rw [← e4, ← e3]; exact e2
        refine ⟨?_, e5⟩
        have e6 : r[k] = ((bys s).drop 1)[k] := by rw [← e1]; congr 1; exact HR.out.symm
        exact (e6.trans e3).trans e4
      have hd := of_decide_eq_true hrk.2
      have hsx : accT (r.take (k + 1)) = accT (r.take k) * 10 + ((s[k + 1].toNat : Int) - 48) := by rw [take_snoc' _ k hlt, accT_snoc, hrk.1]
      have HS := Lib.hid hsx
      obtain ⟨d1, d2⟩ := hd
      have q1 : decide (48 ≤ (s[k + 1].toNat : Int)) = true := by simpa using d1
      have q2 : decide ((s[k + 1].toNat : Int) ≤ 57) = true := by simpa using d2
      have hbl' := Lib.hid hbl
      clear hin hrk hsx hbl
      obtain ⟨c, hc⟩ : ∃ c, (s[k + 1].toNat : Int) = c := ⟨_, rfl⟩
      have u1 : IntKind.u8.wrap ((s[k + 1].toNat : Int) - 48) = (s[k + 1].toNat : Int) - 48 := IntWalk.u8_in _ (by omega)
      have u2 : IntKind.i64.wrap ((s[k + 1].toNat : Int) - 48) = (s[k + 1].toNat : Int) - 48 := IntWalk.i64_in _ (by omega)
      have u3 : (0 : Int) ≤ ((k + 1 : Nat) : Int) := by omega
      have u4 : ((k + 1 : Nat) : Int) < (s.size : Int) := by omega
      clear hc
      go_wp2
      go_region_held3 (fun _ => True) (exact trivial) (first
        | (go_at_call 18; refine (rmul_any _ 10 _).mono ?_; rintro e w5 ⟨rfl, hb5⟩; have HB5 := Lib.hid hb5; clear hb5)
        | (go_at_call 17; refine (radd_any _ _ _).mono ?_; rintro e w6 ⟨rfl, hb6⟩; have HB6 := Lib.hid hb6; clear hb6))
      all_goals
        go_wp2
        go_roundw
        case rel =>
          refine ⟨k + 1, by omega, by go_num, by rw [HS.out]; exact int_eq (lead_step2 _ _), ?_⟩
          exact (hbl'.out.drew.trans (HB5.out.mono hbl'.out.size)).trans (HB6.out.mono (Nat.le_trans hbl'.out.size HB5.out.size))
        case measure => simp [intOf]; omega
    · have hkr : k = r.length := by omega
      have hrt : r.take k = r := List.take_of_length_le (by omega)
      have hout : ∀ (h : k + 1 < s.size), isD s[k + 1] = false := by
        intro h
        have h1 := run_out ((bys s).drop 1) (by rw [HR.out]; simp; omega)
        obtain ⟨h2, h3⟩ := at_drop s 1 (run ((bys s).drop 1)).length (by rw [HR.out]; simp; omega)
        rw [h3] at h1
        have e4 : s[1 + (run ((bys s).drop 1)).length] = s[k + 1] := by congr 1; rw [HR.out]; omega
        rw [← e4]; exact h1
      have hbl' := Lib.hid hbl
      rw [hrt]
      have t0 : ((k : Int) + 1 == 1) = false := by simp <;> omega
      have t1 : ((r.length : Int) + 1 == (k : Int) + 1) = true := by simp <;> omega
      have HO := Lib.hid hout
      clear hrt hkr hout hbl
      rcases Nat.lt_or_ge (k + 1) s.size with hks | hks
      · have hnd : ¬ (48 ≤ (s[k + 1].toNat : Int) ∧ (s[k + 1].toNat : Int) ≤ 57) := of_decide_eq_false (HO.out hks)
        by_cases d1 : 48 ≤ (s[k + 1].toNat : Int)
        · have q1 : decide (48 ≤ (s[k + 1].toNat : Int)) = true := by simpa using d1
          have q2 : decide ((s[k + 1].toNat : Int) ≤ 57) = false := by simp <;> omega
          clear hnd
          go_wp2_with (go_at_call 19; refine (KNEG.out _).mono ?_; rintro e w7 ⟨rfl, hb7⟩; have HB7 := Lib.hid hb7; clear hb7); all_goals (go_ret; exact ⟨rfl, hbl'.out.trans (HB7.out.mono hbl'.out.size)⟩)
        · have q1 : decide (48 ≤ (s[k + 1].toNat : Int)) = false := by simp <;> omega
          clear hnd
          go_wp2_with (go_at_call 19; refine (KNEG.out _).mono ?_; rintro e w7 ⟨rfl, hb7⟩; have HB7 := Lib.hid hb7; clear hb7); all_goals (go_ret; exact ⟨rfl, hbl'.out.trans (HB7.out.mono hbl'.out.size)⟩)
      · go_wp2_with (go_at_call 19; refine (KNEG.out _).mono ?_; rintro e w7 ⟨rfl, hb7⟩; have HB7 := Lib.hid hb7; clear hb7); all_goals (go_ret; exact ⟨rfl, hbl'.out.trans (HB7.out.mono hbl'.out.size)⟩)
set_option maxRecDepth 100000 in
set_option maxHeartbeats 4000000 in
theorem leads_plus_e (s : ByteArray) (w : World) (hs : s.size ≤ 200) (h : (bys s).head? = some 43) (r : List UInt8) (hr : run ((bys s).drop 1) = r) (hr0 : r.length = 0) (kc : ∀ w, Calls Try.prog 16 #[.string s] w fun e w' => e = .returned (.tuple #[.int .i64 0, .int .i64 0]) ∧ w = w') : Calls Try.prog 5 #[.string s] w fun e w' => e = .returned (.bool true) ∧ Below w.heap.size w w' := by
  have hz : 0 < s.size := by
    rcases hs : bys s with _ | ⟨c, l⟩
    · rw [hs] at h; simp at h
    · have : (bys s).length = s.size := by simp
      rw [hs] at this; simp at this; omega
  have he : s[0] = 43 := by
    have : (bys s).head? = some s[0] := by rw [List.head?_eq_getElem?, List.getElem?_eq_getElem (by simpa using hz)]; rfl
    rw [this] at h; simpa using h
  have z0 : decide (0 < (s.size : Int)) = true := by simp; omega
  have z1 : ((s[0].toNat : Int) == 45) = false := by rw [he]; rfl
  have z2 : ((s[0].toNat : Int) == 43) = true := by rw [he]; rfl
  clear he h
  have HR := Lib.hid hr
  have KC := Lib.hid kc
  clear hr kc
  have q0 : decide (200 < (s.size : Int)) = false := by simp <;> omega
  have es := empty_no s hz
  have hle : r.length + 1 ≤ s.size ∨ r.length = 0 := by
    have h1 := run_le ((bys s).drop 1)
    rw [HR.out] at h1
    simp at h1
    omega
  go_enter Try.func5, Try.ntmps5
  go_wp2_with (first
    | (go_at_call 12; refine (reckons_any _).mono ?_; rintro e w1 ⟨rfl, hb1⟩; have HB1 := Lib.hid hb1; clear hb1)
    | (go_at_call 16; refine (KC.out _).mono ?_; rintro e w' ⟨rfl, rfl⟩))
  go_loopw [6, 7] (fun n a wr => ∃ k : Nat, k ≤ r.length ∧ a = .int .i64 ((k + 1 : Nat) : Int) ∧ n = .int .i64 (wrap64 (accT (r.take k))) ∧ Below w.heap.size w wr) (fun _ a _ => s.size - (intOf a).toNat)
  case atStart => exact ⟨0, Nat.zero_le _, rfl, by simp [accT, wrap64], HB1.out⟩
  case round =>
    obtain ⟨k, hk, rfl, rfl, hbl⟩ := hrel
    have hlt : ¬ k < r.length := by omega
    · have hkr : k = r.length := by omega
      have hrt : r.take k = r := List.take_of_length_le (by omega)
      have hout : ∀ (h : k + 1 < s.size), isD s[k + 1] = false := by
        intro h
        have h1 := run_out ((bys s).drop 1) (by rw [HR.out]; simp; omega)
        obtain ⟨h2, h3⟩ := at_drop s 1 (run ((bys s).drop 1)).length (by rw [HR.out]; simp; omega)
        rw [h3] at h1
        have e4 : s[1 + (run ((bys s).drop 1)).length] = s[k + 1] := by congr 1; rw [HR.out]; omega
        rw [← e4]; exact h1
      have hbl' := Lib.hid hbl
      rw [hrt]
      have t0 : ((k : Int) + 1 == 1) = true := by simp <;> omega
      clear hlt hk
      have HO := Lib.hid hout
      clear hrt hkr hout hbl
      rcases Nat.lt_or_ge (k + 1) s.size with hks | hks
      · have hnd : ¬ (48 ≤ (s[k + 1].toNat : Int) ∧ (s[k + 1].toNat : Int) ≤ 57) := of_decide_eq_false (HO.out hks)
        by_cases d1 : 48 ≤ (s[k + 1].toNat : Int)
        · have q1 : decide (48 ≤ (s[k + 1].toNat : Int)) = true := by simpa using d1
          have q2 : decide ((s[k + 1].toNat : Int) ≤ 57) = false := by simp <;> omega
          clear hnd
          go_wp2; all_goals (go_ret; exact ⟨rfl, hbl'.out⟩)
        · have q1 : decide (48 ≤ (s[k + 1].toNat : Int)) = false := by simp <;> omega
          clear hnd
          go_wp2; all_goals (go_ret; exact ⟨rfl, hbl'.out⟩)
      · go_wp2; all_goals (go_ret; exact ⟨rfl, hbl'.out⟩)
set_option maxRecDepth 100000 in
set_option maxHeartbeats 4000000 in
theorem leads_plus_f (s : ByteArray) (w : World) (hs : s.size ≤ 200) (h : (bys s).head? = some 43) (r : List UInt8) (hr : run ((bys s).drop 1) = r) (hr0 : 0 < r.length) (kc : ∀ w, Calls Try.prog 16 #[.string s] w fun e w' => e = .returned (.tuple #[.int .i64 (wrap64 (accT r)), .int .i64 ((r.length + 1 : Nat) : Int)]) ∧ w = w') : Calls Try.prog 5 #[.string s] w fun e w' => e = .returned (.bool true) ∧ Below w.heap.size w w' := by
  have hz : 0 < s.size := by
    rcases hs : bys s with _ | ⟨c, l⟩
    · rw [hs] at h; simp at h
    · have : (bys s).length = s.size := by simp
      rw [hs] at this; simp at this; omega
  have he : s[0] = 43 := by
    have : (bys s).head? = some s[0] := by rw [List.head?_eq_getElem?, List.getElem?_eq_getElem (by simpa using hz)]; rfl
    rw [this] at h; simpa using h
  have z0 : decide (0 < (s.size : Int)) = true := by simp; omega
  have z1 : ((s[0].toNat : Int) == 45) = false := by rw [he]; rfl
  have z2 : ((s[0].toNat : Int) == 43) = true := by rw [he]; rfl
  clear he h
  have HR := Lib.hid hr
  have KC := Lib.hid kc
  clear hr kc
  have q0 : decide (200 < (s.size : Int)) = false := by simp <;> omega
  have es := empty_no s hz
  have hle : r.length + 1 ≤ s.size ∨ r.length = 0 := by
    have h1 := run_le ((bys s).drop 1)
    rw [HR.out] at h1
    simp at h1
    omega
  go_enter Try.func5, Try.ntmps5
  go_wp2_with (first
    | (go_at_call 12; refine (reckons_any _).mono ?_; rintro e w1 ⟨rfl, hb1⟩; have HB1 := Lib.hid hb1; clear hb1)
    | (go_at_call 16; refine (KC.out _).mono ?_; rintro e w' ⟨rfl, rfl⟩))
  go_loopw [6, 7] (fun n a wr => ∃ k : Nat, k ≤ r.length ∧ a = .int .i64 ((k + 1 : Nat) : Int) ∧ n = .int .i64 (wrap64 (accT (r.take k))) ∧ Below w.heap.size w wr) (fun _ a _ => s.size - (intOf a).toNat)
  case atStart => exact ⟨0, Nat.zero_le _, rfl, by simp [accT, wrap64], HB1.out⟩
  case round =>
    obtain ⟨k, hk, rfl, rfl, hbl⟩ := hrel
    by_cases hlt : k < r.length
    · have hks : k + 1 < s.size := by omega
      have hin := run_in ((bys s).drop 1) k (by rw [HR.out]; exact hlt)
      have hrk : r[k] = s[k + 1] ∧ isD s[k + 1] = true := by
        obtain ⟨h', e1, e2⟩ := hin
        obtain ⟨h'', e3⟩ := at_drop s 1 k h'
        have e4 : s[1 + k] = s[k + 1] := by congr 1; omega
        have e5 : isD s[k + 1] = true := by rw [← e4, ← e3]; exact e2
        refine ⟨?_, e5⟩
        have e6 : r[k] = ((bys s).drop 1)[k] := by rw [← e1]; congr 1; exact HR.out.symm
        exact (e6.trans e3).trans e4
      have hd := of_decide_eq_true hrk.2
      have hsx : accT (r.take (k + 1)) = accT (r.take k) * 10 + ((s[k + 1].toNat : Int) - 48) := by rw [take_snoc' _ k hlt, accT_snoc, hrk.1]
      have HS := Lib.hid hsx
      obtain ⟨d1, d2⟩ := hd
      have q1 : decide (48 ≤ (s[k + 1].toNat : Int)) = true := by simpa using d1
      have q2 : decide ((s[k + 1].toNat : Int) ≤ 57) = true := by simpa using d2
      have hbl' := Lib.hid hbl
      clear hin hrk hsx hbl
      obtain ⟨c, hc⟩ : ∃ c, (s[k + 1].toNat : Int) = c := ⟨_, rfl⟩
      have u1 : IntKind.u8.wrap ((s[k + 1].toNat : Int) - 48) = (s[k + 1].toNat : Int) - 48 := IntWalk.u8_in _ (by omega)
      have u2 : IntKind.i64.wrap ((s[k + 1].toNat : Int) - 48) = (s[k + 1].toNat : Int) - 48 := IntWalk.i64_in _ (by omega)
      have u3 : (0 : Int) ≤ ((k + 1 : Nat) : Int) := by omega
      have u4 : ((k + 1 : Nat) : Int) < (s.size : Int) := by omega
      clear hc
      go_wp2
      go_region_held3 (fun _ => True) (exact trivial) (first
        | (go_at_call 18; refine (rmul_any _ 10 _).mono ?_; rintro e w5 ⟨rfl, hb5⟩; have HB5 := Lib.hid hb5; clear hb5)
        | (go_at_call 17; refine (radd_any _ _ _).mono ?_; rintro e w6 ⟨rfl, hb6⟩; have HB6 := Lib.hid hb6; clear hb6))
      all_goals
        go_wp2
        go_roundw
        case rel =>
          refine ⟨k + 1, by omega, by go_num, by rw [HS.out]; exact int_eq (lead_step2 _ _), ?_⟩
          exact (hbl'.out.drew.trans (HB5.out.mono hbl'.out.size)).trans (HB6.out.mono (Nat.le_trans hbl'.out.size HB5.out.size))
        case measure => simp [intOf]; omega
    · have hkr : k = r.length := by omega
      have hrt : r.take k = r := List.take_of_length_le (by omega)
      have hout : ∀ (h : k + 1 < s.size), isD s[k + 1] = false := by
        intro h
        have h1 := run_out ((bys s).drop 1) (by rw [HR.out]; simp; omega)
        obtain ⟨h2, h3⟩ := at_drop s 1 (run ((bys s).drop 1)).length (by rw [HR.out]; simp; omega)
        rw [h3] at h1
        have e4 : s[1 + (run ((bys s).drop 1)).length] = s[k + 1] := by congr 1; rw [HR.out]; omega
        rw [← e4]; exact h1
      have hbl' := Lib.hid hbl
      rw [hrt]
      have t0 : ((k : Int) + 1 == 1) = false := by simp <;> omega
      have t1 : ((r.length : Int) + 1 == (k : Int) + 1) = true := by simp <;> omega
      have HO := Lib.hid hout
      clear hrt hkr hout hbl
      rcases Nat.lt_or_ge (k + 1) s.size with hks | hks
      · have hnd : ¬ (48 ≤ (s[k + 1].toNat : Int) ∧ (s[k + 1].toNat : Int) ≤ 57) := of_decide_eq_false (HO.out hks)
        by_cases d1 : 48 ≤ (s[k + 1].toNat : Int)
        · have q1 : decide (48 ≤ (s[k + 1].toNat : Int)) = true := by simpa using d1
          have q2 : decide ((s[k + 1].toNat : Int) ≤ 57) = false := by simp <;> omega
          clear hnd
          go_wp2; all_goals (go_ret; exact ⟨rfl, hbl'.out⟩)
        · have q1 : decide (48 ≤ (s[k + 1].toNat : Int)) = false := by simp <;> omega
          clear hnd
          go_wp2; all_goals (go_ret; exact ⟨rfl, hbl'.out⟩)
      · go_wp2; all_goals (go_ret; exact ⟨rfl, hbl'.out⟩)
set_option maxRecDepth 100000 in
set_option maxHeartbeats 4000000 in
theorem leads_plain_e (s : ByteArray) (w : World) (hs : s.size ≤ 200) (hz : 0 < s.size) (h : (bys s).head? ≠ some 45) (h2 : (bys s).head? ≠ some 43) (r : List UInt8) (hr : run ((bys s).drop 0) = r) (hr0 : r.length = 0) (kc : ∀ w, Calls Try.prog 16 #[.string s] w fun e w' => e = .returned (.tuple #[.int .i64 0, .int .i64 0]) ∧ w = w') : Calls Try.prog 5 #[.string s] w fun e w' => e = .returned (.bool true) ∧ Below w.heap.size w w' := by
  have hh : (bys s).head? = some s[0] := by rw [List.head?_eq_getElem?, List.getElem?_eq_getElem (by simpa using hz)]; rfl
  have z0 : decide (0 < (s.size : Int)) = true := by simp; omega
  have z1 : ((s[0].toNat : Int) == 45) = false := by
    rw [hh] at h
    simp only [beq_eq_false_iff_ne]
    intro e
    exact h (by congr 1; apply UInt8.toNat_inj.1; show s[0].toNat = 45; omega)
  have z2 : ((s[0].toNat : Int) == 43) = false := by
    rw [hh] at h2
    simp only [beq_eq_false_iff_ne]
    intro e
    exact h2 (by congr 1; apply UInt8.toNat_inj.1; show s[0].toNat = 43; omega)
  clear hh h h2
  have HR := Lib.hid hr
  have KC := Lib.hid kc
  clear hr kc
  have q0 : decide (200 < (s.size : Int)) = false := by simp <;> omega
  have es := empty_no s hz
  have hle : r.length + 0 ≤ s.size ∨ r.length = 0 := by
    have h1 := run_le ((bys s).drop 0)
    rw [HR.out] at h1
    simp at h1
    omega
  go_enter Try.func5, Try.ntmps5
  go_wp2_with (first
    | (go_at_call 12; refine (reckons_any _).mono ?_; rintro e w1 ⟨rfl, hb1⟩; have HB1 := Lib.hid hb1; clear hb1)
    | (go_at_call 16; refine (KC.out _).mono ?_; rintro e w' ⟨rfl, rfl⟩))
  go_loopw [6, 7] (fun n a wr => ∃ k : Nat, k ≤ r.length ∧ a = .int .i64 ((k : Nat) : Int) ∧ n = .int .i64 (wrap64 (accT (r.take k))) ∧ Below w.heap.size w wr) (fun _ a _ => s.size - (intOf a).toNat)
  case atStart => exact ⟨0, Nat.zero_le _, rfl, by simp [accT, wrap64], HB1.out⟩
  case round =>
    obtain ⟨k, hk, rfl, rfl, hbl⟩ := hrel
    have hlt : ¬ k < r.length := by omega
    · have hkr : k = r.length := by omega
      have hrt : r.take k = r := List.take_of_length_le (by omega)
      have hout : ∀ (h : k < s.size), isD s[k] = false := by
        intro h
        have h1 := run_out ((bys s).drop 0) (by rw [HR.out]; simp; omega)
        obtain ⟨h2, h3⟩ := at_drop s 0 (run ((bys s).drop 0)).length (by rw [HR.out]; simp; omega)
        rw [h3] at h1
        have e4 : s[0 + (run ((bys s).drop 0)).length] = s[k] := by congr 1; rw [HR.out]; omega
        rw [← e4]; exact h1
      have hbl' := Lib.hid hbl
      rw [hrt]
      have t0 : ((k : Int) == 0) = true := by simp <;> omega
      clear hlt hk
      have HO := Lib.hid hout
      clear hrt hkr hout hbl
      rcases Nat.lt_or_ge (k) s.size with hks | hks
      · have hnd : ¬ (48 ≤ (s[k].toNat : Int) ∧ (s[k].toNat : Int) ≤ 57) := of_decide_eq_false (HO.out hks)
        by_cases d1 : 48 ≤ (s[k].toNat : Int)
        · have q1 : decide (48 ≤ (s[k].toNat : Int)) = true := by simpa using d1
          have q2 : decide ((s[k].toNat : Int) ≤ 57) = false := by simp <;> omega
          clear hnd
          go_wp2; all_goals (go_ret; exact ⟨rfl, hbl'.out⟩)
        · have q1 : decide (48 ≤ (s[k].toNat : Int)) = false := by simp <;> omega
          clear hnd
          go_wp2; all_goals (go_ret; exact ⟨rfl, hbl'.out⟩)
      · go_wp2; all_goals (go_ret; exact ⟨rfl, hbl'.out⟩)
set_option maxRecDepth 100000 in
set_option maxHeartbeats 4000000 in
theorem leads_plain_f (s : ByteArray) (w : World) (hs : s.size ≤ 200) (hz : 0 < s.size) (h : (bys s).head? ≠ some 45) (h2 : (bys s).head? ≠ some 43) (r : List UInt8) (hr : run ((bys s).drop 0) = r) (hr0 : 0 < r.length) (kc : ∀ w, Calls Try.prog 16 #[.string s] w fun e w' => e = .returned (.tuple #[.int .i64 (wrap64 (accT r)), .int .i64 ((r.length + 0 : Nat) : Int)]) ∧ w = w') : Calls Try.prog 5 #[.string s] w fun e w' => e = .returned (.bool true) ∧ Below w.heap.size w w' := by
  have hh : (bys s).head? = some s[0] := by rw [List.head?_eq_getElem?, List.getElem?_eq_getElem (by simpa using hz)]; rfl
  have z0 : decide (0 < (s.size : Int)) = true := by simp; omega
  have z1 : ((s[0].toNat : Int) == 45) = false := by
    rw [hh] at h
    simp only [beq_eq_false_iff_ne]
    intro e
    exact h (by congr 1; apply UInt8.toNat_inj.1; show s[0].toNat = 45; omega)
  have z2 : ((s[0].toNat : Int) == 43) = false := by
    rw [hh] at h2
    simp only [beq_eq_false_iff_ne]
    intro e
    exact h2 (by congr 1; apply UInt8.toNat_inj.1; show s[0].toNat = 43; omega)
  clear hh h h2
  have HR := Lib.hid hr
  have KC := Lib.hid kc
  clear hr kc
  have q0 : decide (200 < (s.size : Int)) = false := by simp <;> omega
  have es := empty_no s hz
  have hle : r.length + 0 ≤ s.size ∨ r.length = 0 := by
    have h1 := run_le ((bys s).drop 0)
    rw [HR.out] at h1
    simp at h1
    omega
  go_enter Try.func5, Try.ntmps5
  go_wp2_with (first
    | (go_at_call 12; refine (reckons_any _).mono ?_; rintro e w1 ⟨rfl, hb1⟩; have HB1 := Lib.hid hb1; clear hb1)
    | (go_at_call 16; refine (KC.out _).mono ?_; rintro e w' ⟨rfl, rfl⟩))
  go_loopw [6, 7] (fun n a wr => ∃ k : Nat, k ≤ r.length ∧ a = .int .i64 ((k : Nat) : Int) ∧ n = .int .i64 (wrap64 (accT (r.take k))) ∧ Below w.heap.size w wr) (fun _ a _ => s.size - (intOf a).toNat)
  case atStart => exact ⟨0, Nat.zero_le _, rfl, by simp [accT, wrap64], HB1.out⟩
  case round =>
    obtain ⟨k, hk, rfl, rfl, hbl⟩ := hrel
    by_cases hlt : k < r.length
    · have hks : k < s.size := by omega
      have hin := run_in ((bys s).drop 0) k (by rw [HR.out]; exact hlt)
      have hrk : r[k] = s[k] ∧ isD s[k] = true := by
        obtain ⟨h', e1, e2⟩ := hin
        obtain ⟨h'', e3⟩ := at_drop s 0 k h'
        have e4 : s[0 + k] = s[k] := by congr 1; omega
        have e5 : isD s[k] = true := by rw [← e4, ← e3]; exact e2
        refine ⟨?_, e5⟩
        have e6 : r[k] = ((bys s).drop 0)[k] := by rw [← e1]; congr 1; exact HR.out.symm
        exact (e6.trans e3).trans e4
      have hd := of_decide_eq_true hrk.2
      have hsx : accT (r.take (k + 1)) = accT (r.take k) * 10 + ((s[k].toNat : Int) - 48) := by rw [take_snoc' _ k hlt, accT_snoc, hrk.1]
      have HS := Lib.hid hsx
      obtain ⟨d1, d2⟩ := hd
      have q1 : decide (48 ≤ (s[k].toNat : Int)) = true := by simpa using d1
      have q2 : decide ((s[k].toNat : Int) ≤ 57) = true := by simpa using d2
      have hbl' := Lib.hid hbl
      clear hin hrk hsx hbl
      obtain ⟨c, hc⟩ : ∃ c, (s[k].toNat : Int) = c := ⟨_, rfl⟩
      have u1 : IntKind.u8.wrap ((s[k].toNat : Int) - 48) = (s[k].toNat : Int) - 48 := IntWalk.u8_in _ (by omega)
      have u2 : IntKind.i64.wrap ((s[k].toNat : Int) - 48) = (s[k].toNat : Int) - 48 := IntWalk.i64_in _ (by omega)
      have u3 : (0 : Int) ≤ ((k : Nat) : Int) := by omega
      have u4 : ((k : Nat) : Int) < (s.size : Int) := by omega
      clear hc
      go_wp2
      go_region_held3 (fun _ => True) (exact trivial) (first
        | (go_at_call 18; refine (rmul_any _ 10 _).mono ?_; rintro e w5 ⟨rfl, hb5⟩; have HB5 := Lib.hid hb5; clear hb5)
        | (go_at_call 17; refine (radd_any _ _ _).mono ?_; rintro e w6 ⟨rfl, hb6⟩; have HB6 := Lib.hid hb6; clear hb6))
      all_goals
        go_wp2
        go_roundw
        case rel =>
          refine ⟨k + 1, by omega, by go_num, by rw [HS.out]; exact int_eq (lead_step2 _ _), ?_⟩
          exact (hbl'.out.drew.trans (HB5.out.mono hbl'.out.size)).trans (HB6.out.mono (Nat.le_trans hbl'.out.size HB5.out.size))
        case measure => simp [intOf]; omega
    · have hkr : k = r.length := by omega
      have hrt : r.take k = r := List.take_of_length_le (by omega)
      have hout : ∀ (h : k < s.size), isD s[k] = false := by
        intro h
        have h1 := run_out ((bys s).drop 0) (by rw [HR.out]; simp; omega)
        obtain ⟨h2, h3⟩ := at_drop s 0 (run ((bys s).drop 0)).length (by rw [HR.out]; simp; omega)
        rw [h3] at h1
        have e4 : s[0 + (run ((bys s).drop 0)).length] = s[k] := by congr 1; rw [HR.out]; omega
        rw [← e4]; exact h1
      have hbl' := Lib.hid hbl
      rw [hrt]
      have t0 : ((k : Int) == 0) = false := by simp <;> omega
      have t1 : ((r.length : Int) == (k : Int)) = true := by simp <;> omega
      have HO := Lib.hid hout
      clear hrt hkr hout hbl
      rcases Nat.lt_or_ge (k) s.size with hks | hks
      · have hnd : ¬ (48 ≤ (s[k].toNat : Int) ∧ (s[k].toNat : Int) ≤ 57) := of_decide_eq_false (HO.out hks)
        by_cases d1 : 48 ≤ (s[k].toNat : Int)
        · have q1 : decide (48 ≤ (s[k].toNat : Int)) = true := by simpa using d1
          have q2 : decide ((s[k].toNat : Int) ≤ 57) = false := by simp <;> omega
          clear hnd
          go_wp2; all_goals (go_ret; exact ⟨rfl, hbl'.out⟩)
        · have q1 : decide (48 ≤ (s[k].toNat : Int)) = false := by simp <;> omega
          clear hnd
          go_wp2; all_goals (go_ret; exact ⟨rfl, hbl'.out⟩)
      · go_wp2; all_goals (go_ret; exact ⟨rfl, hbl'.out⟩)
theorem lead_e {s : ByteArray} {f : Nat} (hf : sgn (bys s) = f) (hr : (run ((bys s).drop f)).length = 0) (hs : s.size ≤ 200) : ∀ w, Calls Try.prog 16 #[.string s] w fun e w' => e = .returned (.tuple #[.int .i64 0, .int .i64 0]) ∧ w = w' := fun w => by
  have h := lead_any s w (by omega)
  have e : leadO (bys s) = (0, 0) := by unfold leadO; simp only [hf]; rw [if_pos (List.eq_nil_of_length_eq_zero hr)]
  rwa [e] at h
theorem lead_f {s : ByteArray} {f : Nat} {V : Int} (hf : sgn (bys s) = f) (hr : 0 < (run ((bys s).drop f)).length) (hs : s.size ≤ 200) (hv : (if (bys s).head? = some 45 then wrap64 (- accT (run ((bys s).drop f))) else wrap64 (accT (run ((bys s).drop f)))) = V) :
    ∀ w, Calls Try.prog 16 #[.string s] w fun e w' => e = .returned (.tuple #[.int .i64 V, .int .i64 (((run ((bys s).drop f)).length + f : Nat) : Int)]) ∧ w = w' := fun w => by
  have h := lead_any s w (by omega)
  have e : leadO (bys s) = (V, (((run ((bys s).drop f)).length + f : Nat) : Int)) := by
    unfold leadO; simp only [hf]; rw [if_neg (fun e => by rw [e] at hr; simp at hr), hv, Nat.add_comm]
  rwa [e] at h
theorem numLeads_guard (s : ByteArray) (hs : s.size ≤ maxLen) (w : World) : Calls Try.prog 5 #[.string s] w fun e w' => e = .returned (.bool true) ∧ Below w.heap.size w w' := by
  by_cases hl : 200 < s.size
  · exact leads_long s w hl
  have h2 : s.size ≤ 200 := by omega
  by_cases h : (bys s).head? = some 45
  · have e0 : sgn (bys s) = 1 := by unfold sgn; rw [if_pos (.inl h)]
    by_cases hr : (run ((bys s).drop 1)).length = 0
    · exact leads_minus_e s w h2 h _ rfl hr (lead_e e0 hr h2)
    · exact leads_minus_f s w h2 h _ rfl (by omega) (lead_f e0 (by omega) h2 (if_pos h))
  · by_cases h3 : (bys s).head? = some 43
    · have e0 : sgn (bys s) = 1 := by unfold sgn; rw [if_pos (.inr h3)]
      by_cases hr : (run ((bys s).drop 1)).length = 0
      · exact leads_plus_e s w h2 h3 _ rfl hr (lead_e e0 hr h2)
      · exact leads_plus_f s w h2 h3 _ rfl (by omega) (lead_f e0 (by omega) h2 (if_neg h))
    · have e0 : sgn (bys s) = 0 := by unfold sgn; rw [if_neg (fun e => e.elim h h3)]
      by_cases hr : (run ((bys s).drop 0)).length = 0
      · rcases Nat.eq_zero_or_pos s.size with hz | hz
        · exact leads_none_e s w h2 hz _ rfl hr (lead_e e0 hr h2)
        · exact leads_plain_e s w h2 hz h h3 _ rfl hr (lead_e e0 hr h2)
      · have hz : 0 < s.size := by
          have h4 := run_le ((bys s).drop 0)
          have h5 : ((bys s).drop 0).length = s.size := by simp
          omega
        exact leads_plain_f s w h2 hz h h3 _ rfl (by omega) (lead_f e0 (by omega) h2 (if_neg h))
namespace numLeads
open Go.ChangeShapes Go.WideShapes Go.ChangeAt Go.RowKit
open Go.ChangeMaps (open_string shut_string)
theorem laidOut : laidOutB Try.prog = true := by kernel_rfl
theorem own : ownKnob Try.prog.godebug = none := by kernel_rfl
set_option maxRecDepth 100000 in
theorem lifted (os : Os) (started : os.Started) (H : Type) (enc : TypeId × Value → H) :
    ReturnsInHanded {} Try.checked os 5 .any (Rows.numLeadsSpec.pre6 enc Try.prog Try.f5 Rows.numLeadsRow.domain false) (Rows.numLeadsSpec.post enc Try.prog Try.f5 false true false false) := by
  refine returnsInHanded_of_change (C := Try.checked) own started (by kernel_rfl) Try.func5
    (ChangeSpec.witness6 (enc := enc) (C := Try.checked) false ⟨#[], #[.string ⟨#[]⟩], []⟩ 8 (by kernel_rfl) (by kernel_rfl) (by kernel_rfl) (by kernel_rfl)) ?_
  intro W base args ds gs before hval0 hW hcnd _
  have hval : ∀ (j : Nat) t v, Try.f5.params[j]? = some t → args[j]? = some v → Value.okWide Try.prog W .any base t v := hval0
  have hW' := hW
  obtain ⟨p, q, hA0, hV, rfl, hfz, hnd⟩ := hW
  have hA : DataW.TrodAll enc Try.prog W 0 (fun _ => true) true Try.f5.params.toList args.toList ds p := hA0
  rw [Try.params5] at hA hval
  obtain ⟨v0, vs0, d0, ds0, p0, q0, hargs, rfl, rfl, h0, r0⟩ := trodAll_cons hA
  obtain ⟨rfl, rfl, rfl⟩ := trodAll_nil r0
  obtain rfl : args = #[v0] := by cases args; simp_all
  obtain ⟨rfl, rfl⟩ := trodVars_none hV
  have k0 := h0
  have lt0 : ∀ x ∈ p0, x.block < W.heap.size := by obtain ⟨m, hm⟩ := k0; exact DataW.trod_lt m _ _ _ hm
  obtain ⟨a0, rfl, rfl, rfl, w0⟩ := open_string Try.underlying9 (hval 0 9 v0 rfl rfl) h0
  clear hA0 hval0
  refine (numLeads_guard a0 w0 W).mono fun e W' ⟨he, bel⟩ => ?_
  subst he
  exact ⟨_, rfl, _, _, _, [], _, [], hW', trodAll_mk1 (shut_bool Try.underlying4 _), (trodAll_cons_mk (Below.trod laidOut (by kernel_rfl) (of_decide_eq_true (by kernel_rfl)) k0 bel lt0) trodAll_mk0), rfl, bel.frame _, fun h => by cases h⟩
theorem over : Rows.numLeadsRow.holds Try.pinned (OpenSpec.ofChange Rows.numLeadsSpec) :=
  OpenClaim.holds_of_wide 5 Try.f5 rfl rfl rfl rfl rfl rfl rfl ⟨rfl, rfl, rfl, rfl, rfl⟩ rfl rfl rfl rfl rfl (by kernel_rfl) Try.func5 (by kernel_rfl)
    (of_decide_eq_true (by kernel_rfl)) (by unfold Func.isWrapper; first | (rw [if_pos (by decide +kernel)]; kernel_rfl) | (rw [if_neg (by decide +kernel)]; exact ⟨rfl, rfl⟩))
    (fun os started H enc _ => lifted os started H enc)
theorem proved : Rows.NumLeadsSaid := over
#print axioms proved
end numLeads
end Go.Proofs.Ytcjmoobdoinbkaa
