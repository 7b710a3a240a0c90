/- dreylaw01.NumParses: for every s and base the call returns true and its arguments read as before: the statement Rows.NumParsesSaid. No condition. -/
import Derived.Test.YtcjmoobdoinbkaaReckons
import Derived.Test.YtcjmoobdoinbkaaRows
import Derived.Deep.CutBlock
import Derived.Deep.DeepCutAuto
import Derived.Deep.CutRange
import Derived.ProofKit
import Derived.OpenShut
import Derived.Below
import Derived.Lib.SmallJoins
import Derived.ChangeSame
namespace Go.Proofs.Ytcjmoobdoinbkaa
open Go.RowKit
set_option linter.unusedVariables false
def parseV (r : List UInt8) (mn : Bool) (b : Int) : Int × Int :=
  if r = [] ∨ ¬ (∀ c ∈ r, goodB b c = true) then (0, 5)
  else if (mn = false ∧ 9223372036854775807 < accN b r) ∨ 9223372036854775808 < accN b r then (0, 11)
  else if mn = true then (- accN b r, 0) else (accN b r, 0)
theorem parseO_V (l : List UInt8) (b : Int) : parseO l b = parseV (restL l) (minusL l) b := rfl
/-- What the law takes a byte for. -/
def cv (c : Int) : Int := if 0 ≤ dig c then dig c else 99
theorem room_test (n b c : Int) (hn : 0 ≤ n) (hb : 2 ≤ b) (hc0 : 0 ≤ c) (hc : c ≤ 36) : (-n < (-9223372036854775808 + c).tdiv b) ↔ 9223372036854775808 < n * b + c := by
  have e : (-9223372036854775808 + c).tdiv b = - ((9223372036854775808 - c) / b) := by
    rw [show -9223372036854775808 + c = - (9223372036854775808 - c) from by omega, Int.neg_tdiv, Int.tdiv_eq_ediv_of_nonneg (by omega)]
  rw [e]
  constructor
  · intro h
    have h1 : (9223372036854775808 - c) / b < n := by omega
    have h2 := (Int.ediv_lt_iff_lt_mul (by omega)).1 h1
    omega
  · intro h
    have h1 : (9223372036854775808 - c) / b < n := (Int.ediv_lt_iff_lt_mul (by omega)).2 (by omega)
    omega
theorem empty_yes (s : ByteArray) (h : s.size = 0) : s.toList.isEmpty = true := by
  rw [Lib.toList_data, show s.data.toList = [] from List.eq_nil_of_length_eq_zero (by simpa using h)]; rfl
theorem empty_no (s : ByteArray) (h : 0 < s.size) : s.toList.isEmpty = false := by
  rw [Lib.toList_data]
  have h2 : s.data.toList.length = s.size := by simp
  cases hq : s.data.toList with
  | nil => rw [hq] at h2; simp at h2; omega
  | cons c l => rfl
theorem int_e {a b : Int} (h : a = b) : Value.int .i64 a = Value.int .i64 b := by rw [h]
theorem parses_out (s : ByteArray) (b : Int) (w : World) (h : 200 < s.size ∨ b < 2 ∨ 36 < b) : Calls Try.prog 4 #[.string s, .int .i64 b] w fun e w' => e = .returned (.bool true) ∧ Below w.heap.size w w' := by
  by_cases h1 : 200 < s.size
  · have q : decide (200 < (s.size : Int)) = true := by simp <;> omega
    clear h
    go_enter Try.func4, Try.ntmps4
    go_wp2_with (go_at_call 12; refine (reckons_any _).mono ?_; rintro e w1 ⟨rfl, hb1⟩; have HB1 := Lib.hid hb1; clear hb1)
    go_ret
    exact ⟨rfl, HB1.out⟩
  · have q : decide (200 < (s.size : Int)) = false := by simp <;> omega
    by_cases h2 : b < 2
    · have q2 : decide (b < 2) = true := by simpa using h2
      clear h h1
      go_enter Try.func4, Try.ntmps4
      go_wp2_with (go_at_call 12; refine (reckons_any _).mono ?_; rintro e w1 ⟨rfl, hb1⟩; have HB1 := Lib.hid hb1; clear hb1)
      go_ret
      exact ⟨rfl, HB1.out⟩
    · have q2 : decide (b < 2) = false := by simpa using h2
      have q3 : decide (36 < b) = true := by simp <;> omega
      clear h h1
      go_enter Try.func4, Try.ntmps4
      go_wp2_with (go_at_call 12; refine (reckons_any _).mono ?_; rintro e w1 ⟨rfl, hb1⟩; have HB1 := Lib.hid hb1; clear hb1)
      go_ret
      exact ⟨rfl, HB1.out⟩
set_option maxRecDepth 100000 in
set_option maxHeartbeats 8000000 in
theorem parses_none_e (s : ByteArray) (b : Int) (w : World) (hs : s.size ≤ 200) (hb1 : 2 ≤ b) (hb2 : b ≤ 36) (hz : s.size = 0)  (G E : Int) (hv : (G, E) = parseV (bys s) false b)
    (kc : ∀ w, Calls Try.prog 14 #[.string s, .int .i64 b] w fun e w' => e = .returned (.tuple #[.int .i64 G, .int .i64 E]) ∧ w = w') : Calls Try.prog 4 #[.string s, .int .i64 b] w fun e w' => e = .returned (.bool true) ∧ Below w.heap.size w w' := by
  have es := empty_yes s hz
  have HV := Lib.hid hv
  have KC := Lib.hid kc
  clear hv kc
  have q0 : decide (200 < (s.size : Int)) = false := by simp <;> omega
  have q1 : decide (b < 2) = false := by simp <;> omega
  have q2 : decide (36 < b) = false := by simp <;> omega
  have hge : G = 0 ∧ E = 5 := by
    have := HV.out
    unfold parseV at this
    rw [if_pos (.inl (List.eq_nil_of_length_eq_zero (by simpa using hz)))] at this
    injection this with h1 h2
    exact ⟨h1, h2⟩
  obtain ⟨rfl, rfl⟩ := hge
  have q9 : decide ((0 : Int) < (s.size : Int)) = false := decide_eq_false (by omega)
  have q8 : ((s.size : Int) ≤ 0) := by omega
  clear hz
  go_enter Try.func4, Try.ntmps4
  go_wp2_with (first
    | (go_at_call 12; refine (reckons_any _).mono ?_; rintro e w1 ⟨rfl, hb1⟩; have HB1 := Lib.hid hb1; clear hb1)
    | (go_at_call 14; refine (KC.out _).mono ?_; rintro e w' ⟨rfl, rfl⟩))
  go_loop [9, 47] (fun g i => g = .bool false ∧ i = .int .i64 0) (fun _ _ => 0)
  case atStart => exact ⟨rfl, rfl⟩
  case round =>
    obtain ⟨rfl, rfl⟩ := hrel
    go_wp2
    go_ret
    exact ⟨rfl, HB1.out⟩
set_option maxRecDepth 100000 in
set_option maxHeartbeats 8000000 in
theorem parses_plain_f (s : ByteArray) (b : Int) (w : World) (hs : s.size ≤ 200) (hb1 : 2 ≤ b) (hb2 : b ≤ 36) (hz : 0 < s.size) (hh : (bys s).head? ≠ some 45)  (G E : Int) (hv : (G, E) = parseV (bys s) false b)
    (kc : ∀ w, Calls Try.prog 14 #[.string s, .int .i64 b] w fun e w' => e = .returned (.tuple #[.int .i64 G, .int .i64 E]) ∧ w = w') : Calls Try.prog 4 #[.string s, .int .i64 b] w fun e w' => e = .returned (.bool true) ∧ Below w.heap.size w w' := by
  have es := empty_no s hz
  have h0 : (bys s).head? = some s[0] := by rw [List.head?_eq_getElem?, List.getElem?_eq_getElem (by simpa using hz)]; rfl
  have z1 : ((s[0].toNat : Int) == 45) = false := by
    rw [h0] at hh
    simp only [beq_eq_false_iff_ne]
    intro e
    exact hh (by congr 1; apply UInt8.toNat_inj.1; show s[0].toNat = 45; omega)
  clear h0 hh
  have HV := Lib.hid hv
  have KC := Lib.hid kc
  clear hv kc
  have q0 : decide (200 < (s.size : Int)) = false := by simp <;> omega
  have q1 : decide (b < 2) = false := by simp <;> omega
  have q2 : decide (36 < b) = false := by simp <;> omega
  go_enter Try.func4, Try.ntmps4
  go_wp2_with (first
    | (go_at_call 12; refine (reckons_any _).mono ?_; rintro e w1 ⟨rfl, hb1⟩; have HB1 := Lib.hid hb1; clear hb1)
    | (go_at_call 14; refine (KC.out _).mono ?_; rintro e w' ⟨rfl, rfl⟩))
  go_loop [9, 10, 11, 47] (fun g o n i => ∃ k : Nat, k ≤ s.size ∧ g = .bool true ∧ i = .int .i64 k ∧ (∀ c ∈ (bys s).take k, goodB b c = true) ∧ ((o = .bool false ∧ accN b ((bys s).take k) ≤ 9223372036854775808 ∧ n = .int .i64 (- accN b ((bys s).take k))) ∨ (o = .bool true ∧ 9223372036854775808 < accN b ((bys s).take k) ∧ ∃ m : Int, n = .int .i64 m))) (fun _ _ _ i => s.size - (intOf i).toNat)
  case atStart => exact ⟨0, Nat.zero_le _, rfl, rfl, by simp, .inl ⟨rfl, by simp [accN], rfl⟩⟩
  case round =>
    obtain ⟨k, hk, rfl, rfl, hgood, ho⟩ := hrel
    have hN := accN_nn b (by omega) _ hgood
    have HG := Lib.hid hgood
    clear hgood
    obtain ⟨N, hNN⟩ : ∃ N, accN b ((bys s).take k) = N := ⟨_, rfl⟩
    rw [hNN] at hN ho
    have HN := Lib.hid hNN
    clear hNN
    by_cases hlt : k < s.size
    · have hc0 : (0 : Int) ≤ (s[k].toNat : Int) := by omega
      have hc1 : (s[k].toNat : Int) ≤ 255 := by have := s[k].toNat_lt; omega
      have hk0 : (0 : Int) ≤ (k : Int) := by omega
      have hk1 : (k : Int) < (s.size : Int) := by omega
      have hdl := dig_lo (s[k].toNat : Int)
      rcases ho with ⟨rfl, hNl, rfl⟩ | ⟨rfl, hNl, m, rfl⟩
      · go_upto_block 2 with fail
        go_cut [13] (fun c wx => c = .int .i64 (cv (s[k].toNat : Int)) ∧ w1 = wx)
        case first =>
          have hcl : (s[k].toNat : Int) ≤ 47 ∨ (48 ≤ (s[k].toNat : Int) ∧ (s[k].toNat : Int) ≤ 57) ∨ (58 ≤ (s[k].toNat : Int) ∧ (s[k].toNat : Int) ≤ 64) ∨ (65 ≤ (s[k].toNat : Int) ∧ (s[k].toNat : Int) ≤ 90) ∨ (91 ≤ (s[k].toNat : Int) ∧ (s[k].toNat : Int) ≤ 96) ∨ (97 ≤ (s[k].toNat : Int) ∧ (s[k].toNat : Int) ≤ 122) ∨ 123 ≤ (s[k].toNat : Int) := by omega
          rcases hcl with hcl | hcl | hcl | hcl | hcl | hcl | hcl
          · have tl : 0 ≤ (s[k].toNat : Int) ∧ (s[k].toNat : Int) ≤ 47 := by omega
            obtain ⟨tl, th⟩ := tl
            have ta : decide (48 ≤ (s[k].toNat : Int)) = false := by simp <;> omega
            have tb : decide ((s[k].toNat : Int) ≤ 57) = true := by simp <;> omega
            have tc : decide (97 ≤ (s[k].toNat : Int)) = false := by simp <;> omega
            have td : decide ((s[k].toNat : Int) ≤ 122) = true := by simp <;> omega
            have te : decide (65 ≤ (s[k].toNat : Int)) = false := by simp <;> omega
            have tf : decide ((s[k].toNat : Int) ≤ 90) = true := by simp <;> omega
            clear hcl
            go_wp2_with fail
            go_meet
            case rel => exact ⟨int_e (by unfold cv dig; (repeat (first | rw [if_pos (by omega)] | rw [if_neg (by omega)])); all_goals omega), rfl⟩
          · have tl : 48 ≤ (s[k].toNat : Int) ∧ (s[k].toNat : Int) ≤ 57 := by omega
            obtain ⟨tl, th⟩ := tl
            have ta : decide (48 ≤ (s[k].toNat : Int)) = true := by simp <;> omega
            have tb : decide ((s[k].toNat : Int) ≤ 57) = true := by simp <;> omega
            have tc : decide (97 ≤ (s[k].toNat : Int)) = false := by simp <;> omega
            have td : decide ((s[k].toNat : Int) ≤ 122) = true := by simp <;> omega
            have te : decide (65 ≤ (s[k].toNat : Int)) = false := by simp <;> omega
            have tf : decide ((s[k].toNat : Int) ≤ 90) = true := by simp <;> omega
            clear hcl
            go_wp2_with fail
            go_meet
            case rel => exact ⟨int_e (by unfold cv dig; (repeat (first | rw [if_pos (by omega)] | rw [if_neg (by omega)])); all_goals omega), rfl⟩
          · have tl : 58 ≤ (s[k].toNat : Int) ∧ (s[k].toNat : Int) ≤ 64 := by omega
            obtain ⟨tl, th⟩ := tl
            have ta : decide (48 ≤ (s[k].toNat : Int)) = true := by simp <;> omega
            have tb : decide ((s[k].toNat : Int) ≤ 57) = false := by simp <;> omega
            have tc : decide (97 ≤ (s[k].toNat : Int)) = false := by simp <;> omega
            have td : decide ((s[k].toNat : Int) ≤ 122) = true := by simp <;> omega
            have te : decide (65 ≤ (s[k].toNat : Int)) = false := by simp <;> omega
            have tf : decide ((s[k].toNat : Int) ≤ 90) = true := by simp <;> omega
            clear hcl
            go_wp2_with fail
            go_meet
            case rel => exact ⟨int_e (by unfold cv dig; (repeat (first | rw [if_pos (by omega)] | rw [if_neg (by omega)])); all_goals omega), rfl⟩
          · have tl : 65 ≤ (s[k].toNat : Int) ∧ (s[k].toNat : Int) ≤ 90 := by omega
            obtain ⟨tl, th⟩ := tl
            have ta : decide (48 ≤ (s[k].toNat : Int)) = true := by simp <;> omega
            have tb : decide ((s[k].toNat : Int) ≤ 57) = false := by simp <;> omega
            have tc : decide (97 ≤ (s[k].toNat : Int)) = false := by simp <;> omega
            have td : decide ((s[k].toNat : Int) ≤ 122) = true := by simp <;> omega
            have te : decide (65 ≤ (s[k].toNat : Int)) = true := by simp <;> omega
            have tf : decide ((s[k].toNat : Int) ≤ 90) = true := by simp <;> omega
            clear hcl
            go_wp2_with fail
            go_meet
            case rel => exact ⟨int_e (by unfold cv dig; (repeat (first | rw [if_pos (by omega)] | rw [if_neg (by omega)])); all_goals omega), rfl⟩
          · have tl : 91 ≤ (s[k].toNat : Int) ∧ (s[k].toNat : Int) ≤ 96 := by omega
            obtain ⟨tl, th⟩ := tl
            have ta : decide (48 ≤ (s[k].toNat : Int)) = true := by simp <;> omega
            have tb : decide ((s[k].toNat : Int) ≤ 57) = false := by simp <;> omega
            have tc : decide (97 ≤ (s[k].toNat : Int)) = false := by simp <;> omega
            have td : decide ((s[k].toNat : Int) ≤ 122) = true := by simp <;> omega
            have te : decide (65 ≤ (s[k].toNat : Int)) = true := by simp <;> omega
            have tf : decide ((s[k].toNat : Int) ≤ 90) = false := by simp <;> omega
            clear hcl
            go_wp2_with fail
            go_meet
            case rel => exact ⟨int_e (by unfold cv dig; (repeat (first | rw [if_pos (by omega)] | rw [if_neg (by omega)])); all_goals omega), rfl⟩
          · have tl : 97 ≤ (s[k].toNat : Int) ∧ (s[k].toNat : Int) ≤ 122 := by omega
            obtain ⟨tl, th⟩ := tl
            have ta : decide (48 ≤ (s[k].toNat : Int)) = true := by simp <;> omega
            have tb : decide ((s[k].toNat : Int) ≤ 57) = false := by simp <;> omega
            have tc : decide (97 ≤ (s[k].toNat : Int)) = true := by simp <;> omega
            have td : decide ((s[k].toNat : Int) ≤ 122) = true := by simp <;> omega
            have te : decide (65 ≤ (s[k].toNat : Int)) = true := by simp <;> omega
            have tf : decide ((s[k].toNat : Int) ≤ 90) = false := by simp <;> omega
            clear hcl
            go_wp2_with fail
            go_meet
            case rel => exact ⟨int_e (by unfold cv dig; (repeat (first | rw [if_pos (by omega)] | rw [if_neg (by omega)])); all_goals omega), rfl⟩
          · have tl : 123 ≤ (s[k].toNat : Int) ∧ (s[k].toNat : Int) ≤ 255 := by omega
            obtain ⟨tl, th⟩ := tl
            have ta : decide (48 ≤ (s[k].toNat : Int)) = true := by simp <;> omega
            have tb : decide ((s[k].toNat : Int) ≤ 57) = false := by simp <;> omega
            have tc : decide (97 ≤ (s[k].toNat : Int)) = true := by simp <;> omega
            have td : decide ((s[k].toNat : Int) ≤ 122) = false := by simp <;> omega
            have te : decide (65 ≤ (s[k].toNat : Int)) = true := by simp <;> omega
            have tf : decide ((s[k].toNat : Int) ≤ 90) = false := by simp <;> omega
            clear hcl
            go_wp2_with fail
            go_meet
            case rel => exact ⟨int_e (by unfold cv dig; (repeat (first | rw [if_pos (by omega)] | rw [if_neg (by omega)])); all_goals omega), rfl⟩
        case rest =>
          obtain ⟨rfl, rfl⟩ := hcut
          by_cases hgd : cv (s[k].toNat : Int) < b
          · have hg0 : 0 ≤ dig (s[k].toNat : Int) := by
              rcases Int.lt_or_le (dig (s[k].toNat : Int)) 0 with h | h
              · unfold cv at hgd; rw [if_neg (by omega)] at hgd; omega
              · exact h
            have hcd : cv (s[k].toNat : Int) = dig (s[k].toNat : Int) := by unfold cv; rw [if_pos hg0]
            have hsx : accN b ((bys s).take (k + 1)) = N * b + dig (s[k].toNat : Int) := by
              rw [take_snoc _ k (by simpa using hlt), accN_snoc, HN.out]; rfl
            have HG' : Hid (∀ c ∈ (bys s).take (k + 1), goodB b c = true) := by
              intro c hc
              rw [take_snoc _ k (by simpa using hlt)] at hc
              rcases List.mem_append.1 hc with hc | hc
              · exact HG.out c hc
              · obtain rfl : c = (bys s)[k]'(by simpa using hlt) := by simpa using hc
                exact decide_eq_true (show 0 ≤ dg s[k] ∧ dg s[k] < b from ⟨hg0, by unfold dg; rw [← hcd]; exact hgd⟩)
            rw [hcd] at hgd ⊢
            obtain ⟨D, hD⟩ : ∃ D, dig (s[k].toNat : Int) = D := ⟨_, rfl⟩
            rw [hD] at hgd hsx hg0 hdl ⊢
            have HS := Lib.hid hsx
            have D0 : 0 ≤ D := hg0
            clear hsx hcd hD hg0
            have d1 : decide (b ≤ D) = false := decide_eq_false (by omega)
            have e1 : IntKind.i64.wrap (-9223372036854775808 + D) = -9223372036854775808 + D := IntWalk.i64_in _ (by omega)
            by_cases hov : 9223372036854775808 < N * b + D
            · have t1 : decide (-N < (-9223372036854775808 + D).tdiv b) = true := decide_eq_true ((room_test N b D hN hb1 D0 (by omega)).2 hov)
              have HO := Lib.hid hov
              clear hov
              go_wp2
              go_round
              case rel => exact ⟨k + 1, by omega, rfl, by go_num, HG'.out, .inr ⟨rfl, by rw [HS.out]; exact HO.out, -N, rfl⟩⟩
              case measure => simp [intOf] <;> omega
            · have t1 : decide (-N < (-9223372036854775808 + D).tdiv b) = false := decide_eq_false (fun h => hov ((room_test N b D hN hb1 D0 (by omega)).1 h))
              have HO := Lib.hid hov
              have hNb : 0 ≤ N * b := Int.mul_nonneg hN (by omega)
              have e2 : IntKind.i64.wrap (-N * b) = -N * b := IntWalk.i64_in _ (by rw [Int.neg_mul]; omega)
              have e3 : IntKind.i64.wrap (-N * b - D) = -N * b - D := IntWalk.i64_in _ (by rw [Int.neg_mul]; omega)
              have E4 : Hid (-N * b - D = -(N * b + D)) := by show _ = _; rw [Int.neg_mul]; omega
              clear hov
              go_wp2
              go_round
              case rel => exact ⟨k + 1, by omega, rfl, by go_num, HG'.out, .inl ⟨rfl, by rw [HS.out]; have := HO.out; omega, by rw [HS.out]; exact int_e E4.out⟩⟩
              case measure => simp [intOf] <;> omega
          · have d1 : decide (b ≤ cv (s[k].toNat : Int)) = true := decide_eq_true (by omega)
            have hge : G = 0 ∧ E = 5 := by
              have hv := HV.out
              unfold parseV at hv
              rw [if_pos (.inr (fun hall => by
                have h1 := of_decide_eq_true (hall s[k] (by have := List.getElem_mem (l := bys s) (n := k) (by simpa using hlt); exact this))
                apply hgd
                unfold cv
                have h2 : 0 ≤ dig (s[k].toNat : Int) := h1.1
                rw [if_pos h2]
                exact h1.2))] at hv
              injection hv with h1 h2
              exact ⟨h1, h2⟩
            obtain ⟨rfl, rfl⟩ := hge
            clear hgd
            go_wp2
            go_ret
            exact ⟨rfl, HB1.out⟩
      · go_upto_block 2 with fail
        go_cut [13] (fun c wx => c = .int .i64 (cv (s[k].toNat : Int)) ∧ w1 = wx)
        case first =>
          have hcl : (s[k].toNat : Int) ≤ 47 ∨ (48 ≤ (s[k].toNat : Int) ∧ (s[k].toNat : Int) ≤ 57) ∨ (58 ≤ (s[k].toNat : Int) ∧ (s[k].toNat : Int) ≤ 64) ∨ (65 ≤ (s[k].toNat : Int) ∧ (s[k].toNat : Int) ≤ 90) ∨ (91 ≤ (s[k].toNat : Int) ∧ (s[k].toNat : Int) ≤ 96) ∨ (97 ≤ (s[k].toNat : Int) ∧ (s[k].toNat : Int) ≤ 122) ∨ 123 ≤ (s[k].toNat : Int) := by omega
          rcases hcl with hcl | hcl | hcl | hcl | hcl | hcl | hcl
          · have tl : 0 ≤ (s[k].toNat : Int) ∧ (s[k].toNat : Int) ≤ 47 := by omega
            obtain ⟨tl, th⟩ := tl
            have ta : decide (48 ≤ (s[k].toNat : Int)) = false := by simp <;> omega
            have tb : decide ((s[k].toNat : Int) ≤ 57) = true := by simp <;> omega
            have tc : decide (97 ≤ (s[k].toNat : Int)) = false := by simp <;> omega
            have td : decide ((s[k].toNat : Int) ≤ 122) = true := by simp <;> omega
            have te : decide (65 ≤ (s[k].toNat : Int)) = false := by simp <;> omega
            have tf : decide ((s[k].toNat : Int) ≤ 90) = true := by simp <;> omega
            clear hcl
            go_wp2_with fail
            go_meet
            case rel => exact ⟨int_e (by unfold cv dig; (repeat (first | rw [if_pos (by omega)] | rw [if_neg (by omega)])); all_goals omega), rfl⟩
          · have tl : 48 ≤ (s[k].toNat : Int) ∧ (s[k].toNat : Int) ≤ 57 := by omega
            obtain ⟨tl, th⟩ := tl
            have ta : decide (48 ≤ (s[k].toNat : Int)) = true := by simp <;> omega
            have tb : decide ((s[k].toNat : Int) ≤ 57) = true := by simp <;> omega
            have tc : decide (97 ≤ (s[k].toNat : Int)) = false := by simp <;> omega
            have td : decide ((s[k].toNat : Int) ≤ 122) = true := by simp <;> omega
            have te : decide (65 ≤ (s[k].toNat : Int)) = false := by simp <;> omega
            have tf : decide ((s[k].toNat : Int) ≤ 90) = true := by simp <;> omega
            clear hcl
            go_wp2_with fail
            go_meet
            case rel => exact ⟨int_e (by unfold cv dig; (repeat (first | rw [if_pos (by omega)] | rw [if_neg (by omega)])); all_goals omega), rfl⟩
          · have tl : 58 ≤ (s[k].toNat : Int) ∧ (s[k].toNat : Int) ≤ 64 := by omega
            obtain ⟨tl, th⟩ := tl
            have ta : decide (48 ≤ (s[k].toNat : Int)) = true := by simp <;> omega
            have tb : decide ((s[k].toNat : Int) ≤ 57) = false := by simp <;> omega
            have tc : decide (97 ≤ (s[k].toNat : Int)) = false := by simp <;> omega
            have td : decide ((s[k].toNat : Int) ≤ 122) = true := by simp <;> omega
            have te : decide (65 ≤ (s[k].toNat : Int)) = false := by simp <;> omega
            have tf : decide ((s[k].toNat : Int) ≤ 90) = true := by simp <;> omega
            clear hcl
            go_wp2_with fail
            go_meet
            case rel => exact ⟨int_e (by unfold cv dig; (repeat (first | rw [if_pos (by omega)] | rw [if_neg (by omega)])); all_goals omega), rfl⟩
          · have tl : 65 ≤ (s[k].toNat : Int) ∧ (s[k].toNat : Int) ≤ 90 := by omega
            obtain ⟨tl, th⟩ := tl
            have ta : decide (48 ≤ (s[k].toNat : Int)) = true := by simp <;> omega
            have tb : decide ((s[k].toNat : Int) ≤ 57) = false := by simp <;> omega
            have tc : decide (97 ≤ (s[k].toNat : Int)) = false := by simp <;> omega
            have td : decide ((s[k].toNat : Int) ≤ 122) = true := by simp <;> omega
            have te : decide (65 ≤ (s[k].toNat : Int)) = true := by simp <;> omega
            have tf : decide ((s[k].toNat : Int) ≤ 90) = true := by simp <;> omega
            clear hcl
            go_wp2_with fail
            go_meet
            case rel => exact ⟨int_e (by unfold cv dig; (repeat (first | rw [if_pos (by omega)] | rw [if_neg (by omega)])); all_goals omega), rfl⟩
          · have tl : 91 ≤ (s[k].toNat : Int) ∧ (s[k].toNat : Int) ≤ 96 := by omega
            obtain ⟨tl, th⟩ := tl
            have ta : decide (48 ≤ (s[k].toNat : Int)) = true := by simp <;> omega
            have tb : decide ((s[k].toNat : Int) ≤ 57) = false := by simp <;> omega
            have tc : decide (97 ≤ (s[k].toNat : Int)) = false := by simp <;> omega
            have td : decide ((s[k].toNat : Int) ≤ 122) = true := by simp <;> omega
            have te : decide (65 ≤ (s[k].toNat : Int)) = true := by simp <;> omega
            have tf : decide ((s[k].toNat : Int) ≤ 90) = false := by simp <;> omega
            clear hcl
            go_wp2_with fail
            go_meet
            case rel => exact ⟨int_e (by unfold cv dig; (repeat (first | rw [if_pos (by omega)] | rw [if_neg (by omega)])); all_goals omega), rfl⟩
          · have tl : 97 ≤ (s[k].toNat : Int) ∧ (s[k].toNat : Int) ≤ 122 := by omega
            obtain ⟨tl, th⟩ := tl
            have ta : decide (48 ≤ (s[k].toNat : Int)) = true := by simp <;> omega
            have tb : decide ((s[k].toNat : Int) ≤ 57) = false := by simp <;> omega
            have tc : decide (97 ≤ (s[k].toNat : Int)) = true := by simp <;> omega
            have td : decide ((s[k].toNat : Int) ≤ 122) = true := by simp <;> omega
            have te : decide (65 ≤ (s[k].toNat : Int)) = true := by simp <;> omega
            have tf : decide ((s[k].toNat : Int) ≤ 90) = false := by simp <;> omega
            clear hcl
            go_wp2_with fail
            go_meet
            case rel => exact ⟨int_e (by unfold cv dig; (repeat (first | rw [if_pos (by omega)] | rw [if_neg (by omega)])); all_goals omega), rfl⟩
          · have tl : 123 ≤ (s[k].toNat : Int) ∧ (s[k].toNat : Int) ≤ 255 := by omega
            obtain ⟨tl, th⟩ := tl
            have ta : decide (48 ≤ (s[k].toNat : Int)) = true := by simp <;> omega
            have tb : decide ((s[k].toNat : Int) ≤ 57) = false := by simp <;> omega
            have tc : decide (97 ≤ (s[k].toNat : Int)) = true := by simp <;> omega
            have td : decide ((s[k].toNat : Int) ≤ 122) = false := by simp <;> omega
            have te : decide (65 ≤ (s[k].toNat : Int)) = true := by simp <;> omega
            have tf : decide ((s[k].toNat : Int) ≤ 90) = false := by simp <;> omega
            clear hcl
            go_wp2_with fail
            go_meet
            case rel => exact ⟨int_e (by unfold cv dig; (repeat (first | rw [if_pos (by omega)] | rw [if_neg (by omega)])); all_goals omega), rfl⟩
        case rest =>
          obtain ⟨rfl, rfl⟩ := hcut
          by_cases hgd : cv (s[k].toNat : Int) < b
          · have hg0 : 0 ≤ dig (s[k].toNat : Int) := by
              rcases Int.lt_or_le (dig (s[k].toNat : Int)) 0 with h | h
              · unfold cv at hgd; rw [if_neg (by omega)] at hgd; omega
              · exact h
            have hcd : cv (s[k].toNat : Int) = dig (s[k].toNat : Int) := by unfold cv; rw [if_pos hg0]
            have hsx : accN b ((bys s).take (k + 1)) = N * b + dig (s[k].toNat : Int) := by
              rw [take_snoc _ k (by simpa using hlt), accN_snoc, HN.out]; rfl
            have HG' : Hid (∀ c ∈ (bys s).take (k + 1), goodB b c = true) := by
              intro c hc
              rw [take_snoc _ k (by simpa using hlt)] at hc
              rcases List.mem_append.1 hc with hc | hc
              · exact HG.out c hc
              · obtain rfl : c = (bys s)[k]'(by simpa using hlt) := by simpa using hc
                exact decide_eq_true (show 0 ≤ dg s[k] ∧ dg s[k] < b from ⟨hg0, by unfold dg; rw [← hcd]; exact hgd⟩)
            rw [hcd] at hgd ⊢
            obtain ⟨D, hD⟩ : ∃ D, dig (s[k].toNat : Int) = D := ⟨_, rfl⟩
            rw [hD] at hgd hsx hg0 hdl ⊢
            have HS := Lib.hid hsx
            have D0 : 0 ≤ D := hg0
            clear hsx hcd hD hg0
            have d1 : decide (b ≤ D) = false := decide_eq_false (by omega)
            have e1 : IntKind.i64.wrap (-9223372036854775808 + D) = -9223372036854775808 + D := IntWalk.i64_in _ (by omega)
            have HO : Hid (9223372036854775808 < N * b + D) := by
              have h1 : N * 2 ≤ N * b := Int.mul_le_mul_of_nonneg_left hb1 hN
              show _ < _
              omega
            by_cases ht : m < (-9223372036854775808 + D).tdiv b
            · have t1 : decide (m < (-9223372036854775808 + D).tdiv b) = true := decide_eq_true ht
              clear ht
              go_wp2
              go_round
              case rel => exact ⟨k + 1, by omega, rfl, by go_num, HG'.out, .inr ⟨rfl, by rw [HS.out]; exact HO.out, m, rfl⟩⟩
              case measure => simp [intOf] <;> omega
            · have t1 : decide (m < (-9223372036854775808 + D).tdiv b) = false := decide_eq_false ht
              clear ht
              go_wp2
              go_round
              case rel => exact ⟨k + 1, by omega, rfl, by go_num, HG'.out, .inr ⟨rfl, by rw [HS.out]; exact HO.out, m, rfl⟩⟩
              case measure => simp [intOf] <;> omega
          · have d1 : decide (b ≤ cv (s[k].toNat : Int)) = true := decide_eq_true (by omega)
            have hge : G = 0 ∧ E = 5 := by
              have hv := HV.out
              unfold parseV at hv
              rw [if_pos (.inr (fun hall => by
                have h1 := of_decide_eq_true (hall s[k] (by have := List.getElem_mem (l := bys s) (n := k) (by simpa using hlt); exact this))
                apply hgd
                unfold cv
                have h2 : 0 ≤ dig (s[k].toNat : Int) := h1.1
                rw [if_pos h2]
                exact h1.2))] at hv
              injection hv with h1 h2
              exact ⟨h1, h2⟩
            obtain ⟨rfl, rfl⟩ := hge
            clear hgd
            go_wp2
            go_ret
            exact ⟨rfl, HB1.out⟩
    · have htk : (bys s).take k = bys s := List.take_of_length_le (by simp; omega)
      have hNb : accN b (bys s) = N := by rw [← htk]; exact HN.out
      have hgb : ∀ c ∈ bys s, goodB b c = true := by have := HG.out; rwa [htk] at this
      have hne : ¬ (bys s = []) := fun e => by
        have h1 : (bys s).length = s.size := by simp
        rw [e] at h1
        simp at h1
        omega
      have hv := HV.out
      unfold parseV at hv
      rw [if_neg (fun h => h.elim hne (fun h => h hgb)), hNb] at hv
      have q9 : decide ((k : Int) < (s.size : Int)) = false := decide_eq_false (by omega)
      clear htk hNb hgb hne HV HG HN
      rcases ho with ⟨rfl, hNl, rfl⟩ | ⟨rfl, hNl, m, rfl⟩
      · by_cases hN9 : N = 9223372036854775808
        · rw [if_pos (.inl ⟨rfl, by omega⟩)] at hv
          injection hv with h1 h2
          obtain rfl : G = 0 := h1
          obtain rfl : E = 11 := h2
          have t0 : (-N == -9223372036854775808) = true := by rw [hN9]; rfl
          clear hN9
          go_wp2
          go_ret
          exact ⟨rfl, HB1.out⟩
        · rw [if_neg (by simp; omega), if_neg (by simp)] at hv
          injection hv with h1 h2
          obtain rfl : G = N := h1
          obtain rfl : E = 0 := h2
          have t0 : (-G == -9223372036854775808) = false := by simp <;> omega
          have hN8 : G ≤ 9223372036854775807 := by omega
          clear hN9
          go_wp2
          go_ret
          exact ⟨by simp, HB1.out⟩
      · rw [if_pos (.inr hNl)] at hv
        injection hv with h1 h2
        obtain rfl : G = 0 := h1
        obtain rfl : E = 11 := h2
        go_wp2
        go_ret
        exact ⟨rfl, HB1.out⟩
set_option maxRecDepth 100000 in
set_option maxHeartbeats 8000000 in
theorem parses_minus_e (s : ByteArray) (b : Int) (w : World) (hs : s.size ≤ 200) (hb1 : 2 ≤ b) (hb2 : b ≤ 36) (hz : 0 < s.size) (hh : (bys s).head? = some 45) (t : ByteArray) (ht : s.extract 1 s.size = t) (hte : t.size = 0) (G E : Int) (hv : (G, E) = parseV (bys t) true b)
    (kc : ∀ w, Calls Try.prog 14 #[.string s, .int .i64 b] w fun e w' => e = .returned (.tuple #[.int .i64 G, .int .i64 E]) ∧ w = w') : Calls Try.prog 4 #[.string s, .int .i64 b] w fun e w' => e = .returned (.bool true) ∧ Below w.heap.size w w' := by
  have es := empty_no s hz
  have h0 : (bys s).head? = some s[0] := by rw [List.head?_eq_getElem?, List.getElem?_eq_getElem (by simpa using hz)]; rfl
  have he : s[0] = 45 := by rw [h0] at hh; simpa using hh
  have z1 : ((s[0].toNat : Int) == 45) = true := by rw [he]; rfl
  have hts : t.size ≤ 200 := by rw [← ht]; simp; omega
  have h1s : (1 : Int) ≤ (s.size : Int) := by omega
  clear h0 hh he
  have HV := Lib.hid hv
  have KC := Lib.hid kc
  clear hv kc
  have q0 : decide (200 < (s.size : Int)) = false := by simp <;> omega
  have q1 : decide (b < 2) = false := by simp <;> omega
  have q2 : decide (36 < b) = false := by simp <;> omega
  have et := empty_yes t hte
  have hge : G = 0 ∧ E = 5 := by
    have := HV.out
    unfold parseV at this
    rw [if_pos (.inl (List.eq_nil_of_length_eq_zero (by simpa using hte)))] at this
    injection this with h1 h2
    exact ⟨h1, h2⟩
  obtain ⟨rfl, rfl⟩ := hge
  have q9 : decide ((0 : Int) < (t.size : Int)) = false := decide_eq_false (by omega)
  have q8 : ((t.size : Int) ≤ 0) := by omega
  clear hte
  go_enter Try.func4, Try.ntmps4
  go_wp2_with (first
    | (go_at_call 12; refine (reckons_any _).mono ?_; rintro e w1 ⟨rfl, hb1⟩; have HB1 := Lib.hid hb1; clear hb1)
    | (go_at_call 14; refine (KC.out _).mono ?_; rintro e w' ⟨rfl, rfl⟩))
  go_loop [9, 47] (fun g i => g = .bool false ∧ i = .int .i64 0) (fun _ _ => 0)
  case atStart => exact ⟨rfl, rfl⟩
  case round =>
    obtain ⟨rfl, rfl⟩ := hrel
    go_wp2
    go_ret
    exact ⟨rfl, HB1.out⟩
set_option maxRecDepth 100000 in
set_option maxHeartbeats 8000000 in
theorem parses_minus_f (s : ByteArray) (b : Int) (w : World) (hs : s.size ≤ 200) (hb1 : 2 ≤ b) (hb2 : b ≤ 36) (hz : 0 < s.size) (hh : (bys s).head? = some 45) (t : ByteArray) (ht : s.extract 1 s.size = t) (hte : 0 < t.size) (G E : Int) (hv : (G, E) = parseV (bys t) true b)
    (kc : ∀ w, Calls Try.prog 14 #[.string s, .int .i64 b] w fun e w' => e = .returned (.tuple #[.int .i64 G, .int .i64 E]) ∧ w = w') : Calls Try.prog 4 #[.string s, .int .i64 b] w fun e w' => e = .returned (.bool true) ∧ Below w.heap.size w w' := by
  have es := empty_no s hz
  have h0 : (bys s).head? = some s[0] := by rw [List.head?_eq_getElem?, List.getElem?_eq_getElem (by simpa using hz)]; rfl
  have he : s[0] = 45 := by rw [h0] at hh; simpa using hh
  have z1 : ((s[0].toNat : Int) == 45) = true := by rw [he]; rfl
  have hts : t.size ≤ 200 := by rw [← ht]; simp; omega
  have h1s : (1 : Int) ≤ (s.size : Int) := by omega
  clear h0 hh he
  have HV := Lib.hid hv
  have KC := Lib.hid kc
  clear hv kc
  have q0 : decide (200 < (s.size : Int)) = false := by simp <;> omega
  have q1 : decide (b < 2) = false := by simp <;> omega
  have q2 : decide (36 < b) = false := by simp <;> omega
  have et := empty_no t hte
  go_enter Try.func4, Try.ntmps4
  go_wp2_with (first
    | (go_at_call 12; refine (reckons_any _).mono ?_; rintro e w1 ⟨rfl, hb1⟩; have HB1 := Lib.hid hb1; clear hb1)
    | (go_at_call 14; refine (KC.out _).mono ?_; rintro e w' ⟨rfl, rfl⟩))
  go_loop [9, 10, 11, 47] (fun g o n i => ∃ k : Nat, k ≤ t.size ∧ g = .bool true ∧ i = .int .i64 k ∧ (∀ c ∈ (bys t).take k, goodB b c = true) ∧ ((o = .bool false ∧ accN b ((bys t).take k) ≤ 9223372036854775808 ∧ n = .int .i64 (- accN b ((bys t).take k))) ∨ (o = .bool true ∧ 9223372036854775808 < accN b ((bys t).take k) ∧ ∃ m : Int, n = .int .i64 m))) (fun _ _ _ i => t.size - (intOf i).toNat)
  case atStart => exact ⟨0, Nat.zero_le _, rfl, rfl, by simp, .inl ⟨rfl, by simp [accN], rfl⟩⟩
  case round =>
    obtain ⟨k, hk, rfl, rfl, hgood, ho⟩ := hrel
    have hN := accN_nn b (by omega) _ hgood
    have HG := Lib.hid hgood
    clear hgood
    obtain ⟨N, hNN⟩ : ∃ N, accN b ((bys t).take k) = N := ⟨_, rfl⟩
    rw [hNN] at hN ho
    have HN := Lib.hid hNN
    clear hNN
    by_cases hlt : k < t.size
    · have hc0 : (0 : Int) ≤ (t[k].toNat : Int) := by omega
      have hc1 : (t[k].toNat : Int) ≤ 255 := by have := t[k].toNat_lt; omega
      have hk0 : (0 : Int) ≤ (k : Int) := by omega
      have hk1 : (k : Int) < (t.size : Int) := by omega
      have hdl := dig_lo (t[k].toNat : Int)
      rcases ho with ⟨rfl, hNl, rfl⟩ | ⟨rfl, hNl, m, rfl⟩
      · go_upto_block 2 with fail
        go_cut [13] (fun c wx => c = .int .i64 (cv (t[k].toNat : Int)) ∧ w1 = wx)
        case first =>
          have hcl : (t[k].toNat : Int) ≤ 47 ∨ (48 ≤ (t[k].toNat : Int) ∧ (t[k].toNat : Int) ≤ 57) ∨ (58 ≤ (t[k].toNat : Int) ∧ (t[k].toNat : Int) ≤ 64) ∨ (65 ≤ (t[k].toNat : Int) ∧ (t[k].toNat : Int) ≤ 90) ∨ (91 ≤ (t[k].toNat : Int) ∧ (t[k].toNat : Int) ≤ 96) ∨ (97 ≤ (t[k].toNat : Int) ∧ (t[k].toNat : Int) ≤ 122) ∨ 123 ≤ (t[k].toNat : Int) := by omega
          rcases hcl with hcl | hcl | hcl | hcl | hcl | hcl | hcl
          · have tl : 0 ≤ (t[k].toNat : Int) ∧ (t[k].toNat : Int) ≤ 47 := by omega
            obtain ⟨tl, th⟩ := tl
            have ta : decide (48 ≤ (t[k].toNat : Int)) = false := by simp <;> omega
            have tb : decide ((t[k].toNat : Int) ≤ 57) = true := by simp <;> omega
            have tc : decide (97 ≤ (t[k].toNat : Int)) = false := by simp <;> omega
            have td : decide ((t[k].toNat : Int) ≤ 122) = true := by simp <;> omega
            have te : decide (65 ≤ (t[k].toNat : Int)) = false := by simp <;> omega
            have tf : decide ((t[k].toNat : Int) ≤ 90) = true := by simp <;> omega
            clear hcl
            go_wp2_with fail
            go_meet
            case rel => exact ⟨int_e (by unfold cv dig; (repeat (first | rw [if_pos (by omega)] | rw [if_neg (by omega)])); all_goals omega), rfl⟩
          · have tl : 48 ≤ (t[k].toNat : Int) ∧ (t[k].toNat : Int) ≤ 57 := by omega
            obtain ⟨tl, th⟩ := tl
            have ta : decide (48 ≤ (t[k].toNat : Int)) = true := by simp <;> omega
            have tb : decide ((t[k].toNat : Int) ≤ 57) = true := by simp <;> omega
            have tc : decide (97 ≤ (t[k].toNat : Int)) = false := by simp <;> omega
            have td : decide ((t[k].toNat : Int) ≤ 122) = true := by simp <;> omega
            have te : decide (65 ≤ (t[k].toNat : Int)) = false := by simp <;> omega
            have tf : decide ((t[k].toNat : Int) ≤ 90) = true := by simp <;> omega
            clear hcl
            go_wp2_with fail
            go_meet
            case rel => exact ⟨int_e (by unfold cv dig; (repeat (first | rw [if_pos (by omega)] | rw [if_neg (by omega)])); all_goals omega), rfl⟩
          · have tl : 58 ≤ (t[k].toNat : Int) ∧ (t[k].toNat : Int) ≤ 64 := by omega
            obtain ⟨tl, th⟩ := tl
            have ta : decide (48 ≤ (t[k].toNat : Int)) = true := by simp <;> omega
            have tb : decide ((t[k].toNat : Int) ≤ 57) = false := by simp <;> omega
            have tc : decide (97 ≤ (t[k].toNat : Int)) = false := by simp <;> omega
            have td : decide ((t[k].toNat : Int) ≤ 122) = true := by simp <;> omega
            have te : decide (65 ≤ (t[k].toNat : Int)) = false := by simp <;> omega
            have tf : decide ((t[k].toNat : Int) ≤ 90) = true := by simp <;> omega
            clear hcl
            go_wp2_with fail
            go_meet
            case rel => exact ⟨int_e (by unfold cv dig; (repeat (first | rw [if_pos (by omega)] | rw [if_neg (by omega)])); all_goals omega), rfl⟩
          · have tl : 65 ≤ (t[k].toNat : Int) ∧ (t[k].toNat : Int) ≤ 90 := by omega
            obtain ⟨tl, th⟩ := tl
            have ta : decide (48 ≤ (t[k].toNat : Int)) = true := by simp <;> omega
            have tb : decide ((t[k].toNat : Int) ≤ 57) = false := by simp <;> omega
            have tc : decide (97 ≤ (t[k].toNat : Int)) = false := by simp <;> omega
            have td : decide ((t[k].toNat : Int) ≤ 122) = true := by simp <;> omega
            have te : decide (65 ≤ (t[k].toNat : Int)) = true := by simp <;> omega
            have tf : decide ((t[k].toNat : Int) ≤ 90) = true := by simp <;> omega
            clear hcl
            go_wp2_with fail
            go_meet
            case rel => exact ⟨int_e (by unfold cv dig; (repeat (first | rw [if_pos (by omega)] | rw [if_neg (by omega)])); all_goals omega), rfl⟩
          · have tl : 91 ≤ (t[k].toNat : Int) ∧ (t[k].toNat : Int) ≤ 96 := by omega
            obtain ⟨tl, th⟩ := tl
            have ta : decide (48 ≤ (t[k].toNat : Int)) = true := by simp <;> omega
            have tb : decide ((t[k].toNat : Int) ≤ 57) = false := by simp <;> omega
            have tc : decide (97 ≤ (t[k].toNat : Int)) = false := by simp <;> omega
            have td : decide ((t[k].toNat : Int) ≤ 122) = true := by simp <;> omega
            have te : decide (65 ≤ (t[k].toNat : Int)) = true := by simp <;> omega
            have tf : decide ((t[k].toNat : Int) ≤ 90) = false := by simp <;> omega
            clear hcl
            go_wp2_with fail
            go_meet
            case rel => exact ⟨int_e (by unfold cv dig; (repeat (first | rw [if_pos (by omega)] | rw [if_neg (by omega)])); all_goals omega), rfl⟩
          · have tl : 97 ≤ (t[k].toNat : Int) ∧ (t[k].toNat : Int) ≤ 122 := by omega
            obtain ⟨tl, th⟩ := tl
            have ta : decide (48 ≤ (t[k].toNat : Int)) = true := by simp <;> omega
            have tb : decide ((t[k].toNat : Int) ≤ 57) = false := by simp <;> omega
            have tc : decide (97 ≤ (t[k].toNat : Int)) = true := by simp <;> omega
            have td : decide ((t[k].toNat : Int) ≤ 122) = true := by simp <;> omega
            have te : decide (65 ≤ (t[k].toNat : Int)) = true := by simp <;> omega
            have tf : decide ((t[k].toNat : Int) ≤ 90) = false := by simp <;> omega
            clear hcl
            go_wp2_with fail
            go_meet
            case rel => exact ⟨int_e (by unfold cv dig; (repeat (first | rw [if_pos (by omega)] | rw [if_neg (by omega)])); all_goals omega), rfl⟩
          · have tl : 123 ≤ (t[k].toNat : Int) ∧ (t[k].toNat : Int) ≤ 255 := by omega
            obtain ⟨tl, th⟩ := tl
            have ta : decide (48 ≤ (t[k].toNat : Int)) = true := by simp <;> omega
            have tb : decide ((t[k].toNat : Int) ≤ 57) = false := by simp <;> omega
            have tc : decide (97 ≤ (t[k].toNat : Int)) = true := by simp <;> omega
            have td : decide ((t[k].toNat : Int) ≤ 122) = false := by simp <;> omega
            have te : decide (65 ≤ (t[k].toNat : Int)) = true := by simp <;> omega
            have tf : decide ((t[k].toNat : Int) ≤ 90) = false := by simp <;> omega
            clear hcl
            go_wp2_with fail
            go_meet
            case rel => exact ⟨int_e (by unfold cv dig; (repeat (first | rw [if_pos (by omega)] | rw [if_neg (by omega)])); all_goals omega), rfl⟩
        case rest =>
          obtain ⟨rfl, rfl⟩ := hcut
          by_cases hgd : cv (t[k].toNat : Int) < b
          · have hg0 : 0 ≤ dig (t[k].toNat : Int) := by
              rcases Int.lt_or_le (dig (t[k].toNat : Int)) 0 with h | h
              · unfold cv at hgd; rw [if_neg (by omega)] at hgd; omega
              · exact h
            have hcd : cv (t[k].toNat : Int) = dig (t[k].toNat : Int) := by unfold cv; rw [if_pos hg0]
            have hsx : accN b ((bys t).take (k + 1)) = N * b + dig (t[k].toNat : Int) := by
              rw [take_snoc _ k (by simpa using hlt), accN_snoc, HN.out]; rfl
            have HG' : Hid (∀ c ∈ (bys t).take (k + 1), goodB b c = true) := by
              intro c hc
              rw [take_snoc _ k (by simpa using hlt)] at hc
              rcases List.mem_append.1 hc with hc | hc
              · exact HG.out c hc
              · obtain rfl : c = (bys t)[k]'(by simpa using hlt) := by simpa using hc
                exact decide_eq_true (show 0 ≤ dg t[k] ∧ dg t[k] < b from ⟨hg0, by unfold dg; rw [← hcd]; exact hgd⟩)
            rw [hcd] at hgd ⊢
            obtain ⟨D, hD⟩ : ∃ D, dig (t[k].toNat : Int) = D := ⟨_, rfl⟩
            rw [hD] at hgd hsx hg0 hdl ⊢
            have HS := Lib.hid hsx
            have D0 : 0 ≤ D := hg0
            clear hsx hcd hD hg0
            have d1 : decide (b ≤ D) = false := decide_eq_false (by omega)
            have e1 : IntKind.i64.wrap (-9223372036854775808 + D) = -9223372036854775808 + D := IntWalk.i64_in _ (by omega)
            by_cases hov : 9223372036854775808 < N * b + D
            · have t1 : decide (-N < (-9223372036854775808 + D).tdiv b) = true := decide_eq_true ((room_test N b D hN hb1 D0 (by omega)).2 hov)
              have HO := Lib.hid hov
              clear hov
              go_wp2
              go_round
              case rel => exact ⟨k + 1, by omega, rfl, by go_num, HG'.out, .inr ⟨rfl, by rw [HS.out]; exact HO.out, -N, rfl⟩⟩
              case measure => simp [intOf] <;> omega
            · have t1 : decide (-N < (-9223372036854775808 + D).tdiv b) = false := decide_eq_false (fun h => hov ((room_test N b D hN hb1 D0 (by omega)).1 h))
              have HO := Lib.hid hov
              have hNb : 0 ≤ N * b := Int.mul_nonneg hN (by omega)
              have e2 : IntKind.i64.wrap (-N * b) = -N * b := IntWalk.i64_in _ (by rw [Int.neg_mul]; omega)
              have e3 : IntKind.i64.wrap (-N * b - D) = -N * b - D := IntWalk.i64_in _ (by rw [Int.neg_mul]; omega)
              have E4 : Hid (-N * b - D = -(N * b + D)) := by show _ = _; rw [Int.neg_mul]; omega
              clear hov
              go_wp2
              go_round
              case rel => exact ⟨k + 1, by omega, rfl, by go_num, HG'.out, .inl ⟨rfl, by rw [HS.out]; have := HO.out; omega, by rw [HS.out]; exact int_e E4.out⟩⟩
              case measure => simp [intOf] <;> omega
          · have d1 : decide (b ≤ cv (t[k].toNat : Int)) = true := decide_eq_true (by omega)
            have hge : G = 0 ∧ E = 5 := by
              have hv := HV.out
              unfold parseV at hv
              rw [if_pos (.inr (fun hall => by
                have h1 := of_decide_eq_true (hall t[k] (by have := List.getElem_mem (l := bys t) (n := k) (by simpa using hlt); exact this))
                apply hgd
                unfold cv
                have h2 : 0 ≤ dig (t[k].toNat : Int) := h1.1
                rw [if_pos h2]
                exact h1.2))] at hv
              injection hv with h1 h2
              exact ⟨h1, h2⟩
            obtain ⟨rfl, rfl⟩ := hge
            clear hgd
            go_wp2
            go_ret
            exact ⟨rfl, HB1.out⟩
      · go_upto_block 2 with fail
        go_cut [13] (fun c wx => c = .int .i64 (cv (t[k].toNat : Int)) ∧ w1 = wx)
        case first =>
          have hcl : (t[k].toNat : Int) ≤ 47 ∨ (48 ≤ (t[k].toNat : Int) ∧ (t[k].toNat : Int) ≤ 57) ∨ (58 ≤ (t[k].toNat : Int) ∧ (t[k].toNat : Int) ≤ 64) ∨ (65 ≤ (t[k].toNat : Int) ∧ (t[k].toNat : Int) ≤ 90) ∨ (91 ≤ (t[k].toNat : Int) ∧ (t[k].toNat : Int) ≤ 96) ∨ (97 ≤ (t[k].toNat : Int) ∧ (t[k].toNat : Int) ≤ 122) ∨ 123 ≤ (t[k].toNat : Int) := by omega
          rcases hcl with hcl | hcl | hcl | hcl | hcl | hcl | hcl
          · have tl : 0 ≤ (t[k].toNat : Int) ∧ (t[k].toNat : Int) ≤ 47 := by omega
            obtain ⟨tl, th⟩ := tl
            have ta : decide (48 ≤ (t[k].toNat : Int)) = false := by simp <;> omega
            have tb : decide ((t[k].toNat : Int) ≤ 57) = true := by simp <;> omega
            have tc : decide (97 ≤ (t[k].toNat : Int)) = false := by simp <;> omega
            have td : decide ((t[k].toNat : Int) ≤ 122) = true := by simp <;> omega
            have te : decide (65 ≤ (t[k].toNat : Int)) = false := by simp <;> omega
            have tf : decide ((t[k].toNat : Int) ≤ 90) = true := by simp <;> omega
            clear hcl
            go_wp2_with fail
            go_meet
            case rel => exact ⟨int_e (by unfold cv dig; (repeat (first | rw [if_pos (by omega)] | rw [if_neg (by omega)])); all_goals omega), rfl⟩
          · have tl : 48 ≤ (t[k].toNat : Int) ∧ (t[k].toNat : Int) ≤ 57 := by omega
            obtain ⟨tl, th⟩ := tl
            have ta : decide (48 ≤ (t[k].toNat : Int)) = true := by simp <;> omega
            have tb : decide ((t[k].toNat : Int) ≤ 57) = true := by simp <;> omega
            have tc : decide (97 ≤ (t[k].toNat : Int)) = false := by simp <;> omega
            have td : decide ((t[k].toNat : Int) ≤ 122) = true := by simp <;> omega
            have te : decide (65 ≤ (t[k].toNat : Int)) = false := by simp <;> omega
            have tf : decide ((t[k].toNat : Int) ≤ 90) = true := by simp <;> omega
            clear hcl
            go_wp2_with fail
            go_meet
            case rel => exact ⟨int_e (by unfold cv dig; (repeat (first | rw [if_pos (by omega)] | rw [if_neg (by omega)])); all_goals omega), rfl⟩
          · have tl : 58 ≤ (t[k].toNat : Int) ∧ (t[k].toNat : Int) ≤ 64 := by omega
            obtain ⟨tl, th⟩ := tl
            have ta : decide (48 ≤ (t[k].toNat : Int)) = true := by simp <;> omega
            have tb : decide ((t[k].toNat : Int) ≤ 57) = false := by simp <;> omega
            have tc : decide (97 ≤ (t[k].toNat : Int)) = false := by simp <;> omega
            have td : decide ((t[k].toNat : Int) ≤ 122) = true := by simp <;> omega
            have te : decide (65 ≤ (t[k].toNat : Int)) = false := by simp <;> omega
            have tf : decide ((t[k].toNat : Int) ≤ 90) = true := by simp <;> omega
            clear hcl
            go_wp2_with fail
            go_meet
            case rel => exact ⟨int_e (by unfold cv dig; (repeat (first | rw [if_pos (by omega)] | rw [if_neg (by omega)])); all_goals omega), rfl⟩
          · have tl : 65 ≤ (t[k].toNat : Int) ∧ (t[k].toNat : Int) ≤ 90 := by omega
            obtain ⟨tl, th⟩ := tl
            have ta : decide (48 ≤ (t[k].toNat : Int)) = true := by simp <;> omega
            have tb : decide ((t[k].toNat : Int) ≤ 57) = false := by simp <;> omega
            have tc : decide (97 ≤ (t[k].toNat : Int)) = false := by simp <;> omega
            have td : decide ((t[k].toNat : Int) ≤ 122) = true := by simp <;> omega
            have te : decide (65 ≤ (t[k].toNat : Int)) = true := by simp <;> omega
            have tf : decide ((t[k].toNat : Int) ≤ 90) = true := by simp <;> omega
            clear hcl
            go_wp2_with fail
            go_meet
            case rel => exact ⟨int_e (by unfold cv dig; (repeat (first | rw [if_pos (by omega)] | rw [if_neg (by omega)])); all_goals omega), rfl⟩
          · have tl : 91 ≤ (t[k].toNat : Int) ∧ (t[k].toNat : Int) ≤ 96 := by omega
            obtain ⟨tl, th⟩ := tl
            have ta : decide (48 ≤ (t[k].toNat : Int)) = true := by simp <;> omega
            have tb : decide ((t[k].toNat : Int) ≤ 57) = false := by simp <;> omega
            have tc : decide (97 ≤ (t[k].toNat : Int)) = false := by simp <;> omega
            have td : decide ((t[k].toNat : Int) ≤ 122) = true := by simp <;> omega
            have te : decide (65 ≤ (t[k].toNat : Int)) = true := by simp <;> omega
            have tf : decide ((t[k].toNat : Int) ≤ 90) = false := by simp <;> omega
            clear hcl
            go_wp2_with fail
            go_meet
            case rel => exact ⟨int_e (by unfold cv dig; (repeat (first | rw [if_pos (by omega)] | rw [if_neg (by omega)])); all_goals omega), rfl⟩
          · have tl : 97 ≤ (t[k].toNat : Int) ∧ (t[k].toNat : Int) ≤ 122 := by omega
            obtain ⟨tl, th⟩ := tl
            have ta : decide (48 ≤ (t[k].toNat : Int)) = true := by simp <;> omega
            have tb : decide ((t[k].toNat : Int) ≤ 57) = false := by simp <;> omega
            have tc : decide (97 ≤ (t[k].toNat : Int)) = true := by simp <;> omega
            have td : decide ((t[k].toNat : Int) ≤ 122) = true := by simp <;> omega
            have te : decide (65 ≤ (t[k].toNat : Int)) = true := by simp <;> omega
            have tf : decide ((t[k].toNat : Int) ≤ 90) = false := by simp <;> omega
            clear hcl
            go_wp2_with fail
            go_meet
            case rel => exact ⟨int_e (by unfold cv dig; (repeat (first | rw [if_pos (by omega)] | rw [if_neg (by omega)])); all_goals omega), rfl⟩
          · have tl : 123 ≤ (t[k].toNat : Int) ∧ (t[k].toNat : Int) ≤ 255 := by omega
            obtain ⟨tl, th⟩ := tl
            have ta : decide (48 ≤ (t[k].toNat : Int)) = true := by simp <;> omega
            have tb : decide ((t[k].toNat : Int) ≤ 57) = false := by simp <;> omega
            have tc : decide (97 ≤ (t[k].toNat : Int)) = true := by simp <;> omega
            have td : decide ((t[k].toNat : Int) ≤ 122) = false := by simp <;> omega
            have te : decide (65 ≤ (t[k].toNat : Int)) = true := by simp <;> omega
            have tf : decide ((t[k].toNat : Int) ≤ 90) = false := by simp <;> omega
            clear hcl
            go_wp2_with fail
            go_meet
            case rel => exact ⟨int_e (by unfold cv dig; (repeat (first | rw [if_pos (by omega)] | rw [if_neg (by omega)])); all_goals omega), rfl⟩
        case rest =>
          obtain ⟨rfl, rfl⟩ := hcut
          by_cases hgd : cv (t[k].toNat : Int) < b
          · have hg0 : 0 ≤ dig (t[k].toNat : Int) := by
              rcases Int.lt_or_le (dig (t[k].toNat : Int)) 0 with h | h
              · unfold cv at hgd; rw [if_neg (by omega)] at hgd; omega
              · exact h
            have hcd : cv (t[k].toNat : Int) = dig (t[k].toNat : Int) := by unfold cv; rw [if_pos hg0]
            have hsx : accN b ((bys t).take (k + 1)) = N * b + dig (t[k].toNat : Int) := by
              rw [take_snoc _ k (by simpa using hlt), accN_snoc, HN.out]; rfl
            have HG' : Hid (∀ c ∈ (bys t).take (k + 1), goodB b c = true) := by
              intro c hc
              rw [take_snoc _ k (by simpa using hlt)] at hc
              rcases List.mem_append.1 hc with hc | hc
              · exact HG.out c hc
              · obtain rfl : c = (bys t)[k]'(by simpa using hlt) := by simpa using hc
                exact decide_eq_true (show 0 ≤ dg t[k] ∧ dg t[k] < b from ⟨hg0, by unfold dg; rw [← hcd]; exact hgd⟩)
            rw [hcd] at hgd ⊢
            obtain ⟨D, hD⟩ : ∃ D, dig (t[k].toNat : Int) = D := ⟨_, rfl⟩
            rw [hD] at hgd hsx hg0 hdl ⊢
            have HS := Lib.hid hsx
            have D0 : 0 ≤ D := hg0
            clear hsx hcd hD hg0
            have d1 : decide (b ≤ D) = false := decide_eq_false (by omega)
            have e1 : IntKind.i64.wrap (-9223372036854775808 + D) = -9223372036854775808 + D := IntWalk.i64_in _ (by omega)
            have HO : Hid (9223372036854775808 < N * b + D) := by
              have h1 : N * 2 ≤ N * b := Int.mul_le_mul_of_nonneg_left hb1 hN
              show _ < _
              omega
            by_cases ht : m < (-9223372036854775808 + D).tdiv b
            · have t1 : decide (m < (-9223372036854775808 + D).tdiv b) = true := decide_eq_true ht
              clear ht
              go_wp2
              go_round
              case rel => exact ⟨k + 1, by omega, rfl, by go_num, HG'.out, .inr ⟨rfl, by rw [HS.out]; exact HO.out, m, rfl⟩⟩
              case measure => simp [intOf] <;> omega
            · have t1 : decide (m < (-9223372036854775808 + D).tdiv b) = false := decide_eq_false ht
              clear ht
              go_wp2
              go_round
              case rel => exact ⟨k + 1, by omega, rfl, by go_num, HG'.out, .inr ⟨rfl, by rw [HS.out]; exact HO.out, m, rfl⟩⟩
              case measure => simp [intOf] <;> omega
          · have d1 : decide (b ≤ cv (t[k].toNat : Int)) = true := decide_eq_true (by omega)
            have hge : G = 0 ∧ E = 5 := by
              have hv := HV.out
              unfold parseV at hv
              rw [if_pos (.inr (fun hall => by
                have h1 := of_decide_eq_true (hall t[k] (by have := List.getElem_mem (l := bys t) (n := k) (by simpa using hlt); exact this))
                apply hgd
                unfold cv
                have h2 : 0 ≤ dig (t[k].toNat : Int) := h1.1
                rw [if_pos h2]
                exact h1.2))] at hv
              injection hv with h1 h2
              exact ⟨h1, h2⟩
            obtain ⟨rfl, rfl⟩ := hge
            clear hgd
            go_wp2
            go_ret
            exact ⟨rfl, HB1.out⟩
    · have htk : (bys t).take k = bys t := List.take_of_length_le (by simp; omega)
      have hNb : accN b (bys t) = N := by rw [← htk]; exact HN.out
      have hgb : ∀ c ∈ bys t, goodB b c = true := by have := HG.out; rwa [htk] at this
      have hne : ¬ (bys t = []) := fun e => by
        have h1 : (bys t).length = t.size := by simp
        rw [e] at h1
        simp at h1
        omega
      have hv := HV.out
      unfold parseV at hv
      rw [if_neg (fun h => h.elim hne (fun h => h hgb)), hNb] at hv
      have q9 : decide ((k : Int) < (t.size : Int)) = false := decide_eq_false (by omega)
      clear htk hNb hgb hne HV HG HN
      rcases ho with ⟨rfl, hNl, rfl⟩ | ⟨rfl, hNl, m, rfl⟩
      · rw [if_neg (by simp; omega), if_pos rfl] at hv
        injection hv with h1 h2
        obtain rfl : G = -N := h1
        obtain rfl : E = 0 := h2
        go_wp2
        go_ret
        exact ⟨by simp, HB1.out⟩
      · rw [if_pos (.inr hNl)] at hv
        injection hv with h1 h2
        obtain rfl : G = 0 := h1
        obtain rfl : E = 11 := h2
        go_wp2
        go_ret
        exact ⟨rfl, HB1.out⟩
theorem numParses_guard (s : ByteArray) (b : Int) (hs : s.size ≤ maxLen) (w : World) : Calls Try.prog 4 #[.string s, .int .i64 b] w fun e w' => e = .returned (.bool true) ∧ Below w.heap.size w w' := by
  by_cases h1 : 200 < s.size ∨ b < 2 ∨ 36 < b
  · exact parses_out s b w h1
  have h2 : s.size ≤ 200 := by omega
  have hb1 : 2 ≤ b := by omega
  have hb2 : b ≤ 36 := by omega
  have kc := fun w => parse_any s b w hb1 hb2 (by omega)
  rcases Nat.eq_zero_or_pos s.size with hz | hz
  · have hl : bys s = [] := List.eq_nil_of_length_eq_zero (by simpa using hz)
    refine parses_none_e s b w h2 hb1 hb2 hz _ _ ?_ kc
    rw [parseO_V, show restL (bys s) = bys s from by rw [hl]; rfl, show minusL (bys s) = false from by rw [hl]; rfl]
  · by_cases h : (bys s).head? = some 45
    · have e1 : restL (bys s) = bys (s.extract 1 s.size) := by
        unfold restL; rw [if_pos h]
        show _ = (s.extract 1 s.size).data.toList
        rw [Lib.extract_data, List.take_of_length_le (by simp)]
      have e2 : minusL (bys s) = true := decide_eq_true h
      rcases Nat.eq_zero_or_pos (s.extract 1 s.size).size with ht | ht
      · exact parses_minus_e s b w h2 hb1 hb2 hz h _ rfl ht _ _ (by rw [parseO_V, e1, e2]) kc
      · exact parses_minus_f s b w h2 hb1 hb2 hz h _ rfl ht _ _ (by rw [parseO_V, e1, e2]) kc
    · have e1 : restL (bys s) = bys s := by unfold restL; rw [if_neg h]
      have e2 : minusL (bys s) = false := decide_eq_false h
      exact parses_plain_f s b w h2 hb1 hb2 hz h _ _ (by rw [parseO_V, e1, e2]) kc
namespace numParses
open Go.ChangeShapes Go.WideShapes Go.ChangeAt Go.RowKit
open Go.ChangeMaps (open_string shut_string)
theorem laidOut : laidOutB Try.prog = true := by kernel_rfl
theorem own : ownKnob Try.prog.godebug = none := by kernel_rfl
set_option maxRecDepth 100000 in
theorem lifted (os : Os) (started : os.Started) (H : Type) (enc : TypeId × Value → H) :
    ReturnsInHanded {} Try.checked os 4 .any (Rows.numParsesSpec.pre6 enc Try.prog Try.f4 Rows.numParsesRow.domain false) (Rows.numParsesSpec.post enc Try.prog Try.f4 false true false false) := by
  refine returnsInHanded_of_change (C := Try.checked) own started (by kernel_rfl) Try.func4
    (ChangeSpec.witness6 (enc := enc) (C := Try.checked) false ⟨#[], #[.string ⟨#[]⟩, .int .i64 0], []⟩ 8 (by kernel_rfl) (by kernel_rfl) (by kernel_rfl) (by kernel_rfl)) ?_
  intro W base args ds gs before hval0 hW hcnd _
  have hval : ∀ (j : Nat) t v, Try.f4.params[j]? = some t → args[j]? = some v → Value.okWide Try.prog W .any base t v := hval0
  have hW' := hW
  obtain ⟨p, q, hA0, hV, rfl, hfz, hnd⟩ := hW
  have hA : DataW.TrodAll enc Try.prog W 0 (fun _ => true) true Try.f4.params.toList args.toList ds p := hA0
  rw [Try.params4] at hA hval
  obtain ⟨v0, vs0, d0, ds0, p0, q0, hargs, rfl, rfl, h0, r0⟩ := trodAll_cons hA
  obtain ⟨v1, vs1, d1, ds1, p1, q1, rfl, rfl, rfl, h1, r1⟩ := trodAll_cons r0
  obtain ⟨rfl, rfl, rfl⟩ := trodAll_nil r1
  obtain rfl : args = #[v0, v1] := by cases args; simp_all
  obtain ⟨rfl, rfl⟩ := trodVars_none hV
  have k0 := h0
  have lt0 : ∀ x ∈ p0, x.block < W.heap.size := by obtain ⟨m, hm⟩ := k0; exact DataW.trod_lt m _ _ _ hm
  have k1 := h1
  have lt1 : ∀ x ∈ p1, x.block < W.heap.size := by obtain ⟨m, hm⟩ := k1; exact DataW.trod_lt m _ _ _ hm
  obtain ⟨a0, rfl, rfl, rfl, w0⟩ := open_string Try.underlying9 (hval 0 9 v0 rfl rfl) h0
  obtain ⟨a1, rfl, rfl, rfl, w1⟩ := open_int Try.underlying3 (hval 1 3 v1 rfl rfl) h1
  clear hA0 hval0
  refine (numParses_guard a0 a1 w0 W).mono fun e W' ⟨he, bel⟩ => ?_
  subst he
  exact ⟨_, rfl, _, _, _, [], _, [], hW', trodAll_mk1 (shut_bool Try.underlying4 _), (trodAll_cons_mk (Below.trod laidOut (by kernel_rfl) (of_decide_eq_true (by kernel_rfl)) k0 bel lt0) (trodAll_cons_mk (Below.trod laidOut (by kernel_rfl) (of_decide_eq_true (by kernel_rfl)) k1 bel lt1) trodAll_mk0)), rfl, bel.frame _, fun h => by cases h⟩
theorem over : Rows.numParsesRow.holds Try.pinned (OpenSpec.ofChange Rows.numParsesSpec) :=
  OpenClaim.holds_of_wide 4 Try.f4 rfl rfl rfl rfl rfl rfl rfl ⟨rfl, rfl, rfl, rfl, rfl⟩ rfl rfl rfl rfl rfl (by kernel_rfl) Try.func4 (by kernel_rfl)
    (of_decide_eq_true (by kernel_rfl)) (by unfold Func.isWrapper; first | (rw [if_pos (by decide +kernel)]; kernel_rfl) | (rw [if_neg (by decide +kernel)]; exact ⟨rfl, rfl⟩))
    (fun os started H enc _ => lifted os started H enc)
theorem proved : Rows.NumParsesSaid := over
#print axioms proved
end numParses
end Go.Proofs.Ytcjmoobdoinbkaa
