/- dreylaw01.NumTexts: for every a and base the call returns true and its arguments read as before: the statement Rows.NumTextsSaid. No condition. -/
import Derived.Test.YtcjmoobdoinbkaaReckons
import Derived.Test.YtcjmoobdoinbkaaRows
import Derived.ProofKit
import Derived.OpenShut
import Derived.Below
import Derived.Lib.SmallJoins
import Derived.ChangeSame
namespace Go.Proofs.Ytcjmoobdoinbkaa
open Go.RowKit
set_option linter.unusedVariables false
theorem chr_dg : ∀ d : Fin 36, dg (chr d.val) = (d.val : Int) := by decide +kernel
theorem chr_cls : ∀ d : Fin 36, (48 ≤ (chr d.val).toNat ∧ (chr d.val).toNat ≤ 57 ∧ (chr d.val).toNat = d.val + 48) ∨ (97 ≤ (chr d.val).toNat ∧ (chr d.val).toNat ≤ 122 ∧ (chr d.val).toNat = d.val + 87) := by decide +kernel
theorem digs_spec (b : Nat) (hb1 : 2 ≤ b) (hb2 : b ≤ 36) : ∀ f m acc n, m < 2 ^ n → 1 ≤ n → n ≤ f → ∃ E, digsF b f m acc = E ++ acc ∧ E ≠ [] ∧ E.length ≤ n ∧ (∀ c ∈ E, ∃ d, d < b ∧ c = chr d) ∧ accN b E = m ∧ (1 < E.length → ∃ d, 0 < d ∧ d < b ∧ E.head? = some (chr d)) ∧ (0 < m → ∃ d, 0 < d ∧ d < b ∧ E.head? = some (chr d)) := by
  intro f
  induction f with
  | zero => intro m acc n h1 h2 h3; omega
  | succ f ih =>
    intro m acc n h1 h2 h3
    have hlt : m % b < b := Nat.mod_lt m (by omega)
    have hdg := chr_dg ⟨m % b, by omega⟩
    simp only at hdg
    rw [digsF]
    by_cases hq : m / b = 0
    · rw [if_pos hq]
      have hm : m % b = m := by have := Nat.div_add_mod m b; rw [hq] at this; simpa using this
      refine ⟨[chr (m % b)], rfl, by simp, by simp; omega, fun c hc => ⟨m % b, hlt, by simpa using hc⟩, ?_, by simp, fun h => ⟨m % b, by omega, hlt, rfl⟩⟩
      show 0 * (b : Int) + dg (chr (m % b)) = _
      rw [hdg, hm]; omega
    · rw [if_neg hq]
      have h5 : m / b ≤ m / 2 := Nat.div_le_div_left hb1 (by decide)
      obtain ⟨n', rfl⟩ : ∃ n', n = n' + 1 := ⟨n - 1, by omega⟩
      rw [Nat.pow_succ] at h1
      have h6 : m / b < 2 ^ n' := by omega
      have hp : 0 < m / b := Nat.pos_of_ne_zero hq
      have h7 : 1 ≤ n' := by
        rcases Nat.eq_zero_or_pos n' with h | h
        · subst h; simp at h6; exact absurd h6.symm (by intro e; rcases h6 with h6 | h6 <;> simp_all)
        · exact h
      obtain ⟨E, e1, e2, e3, e4, e5, e6, e7⟩ := ih (m / b) (chr (m % b) :: acc) n' h6 h7 (by omega)
      obtain ⟨d, d1, d2, d3⟩ := e7 hp
      have hh : (E ++ [chr (m % b)]).head? = some (chr d) := by rw [List.head?_append, d3]; rfl
      refine ⟨E ++ [chr (m % b)], by rw [e1]; simp, by simp, by simp; omega, fun c hc => ?_, ?_, fun _ => ⟨d, d1, d2, hh⟩, fun _ => ⟨d, d1, d2, hh⟩⟩
      · rcases List.mem_append.1 hc with hc | hc
        · exact e4 c hc
        · exact ⟨m % b, hlt, by simpa using hc⟩
      · rw [accN_snoc, e5, hdg]
        have := Nat.div_add_mod m b
        rw [Nat.mul_comm] at this
        exact_mod_cast this
theorem empty_no (s : ByteArray) (h : 0 < s.size) : s.toList.isEmpty = false := by
  rw [Lib.toList_data]
  have h2 : s.data.toList.length = s.size := by simp
  cases hq : s.data.toList with
  | nil => rw [hq] at h2; simp at h2; omega
  | cons c l => rfl
theorem texts_out (a b : Int) (w : World) (h : b < 2 ∨ 36 < b) : Calls Try.prog 3 #[.int .i64 a, .int .i64 b] w fun e w' => e = .returned (.bool true) ∧ Below w.heap.size w w' := by
  have ki := fun w => in_base a b w h
  have kp := fun w => parse_base ⟨#[49]⟩ b w h
  have KI := Lib.hid ki
  have KP := Lib.hid kp
  clear ki kp
  by_cases h2 : b < 2
  · have q2 : decide (b < 2) = true := by simpa using h2
    clear h
    go_enter Try.func3, Try.ntmps3
    go_wp2_with (first
      | (go_at_call 12; refine (reckons_any _).mono ?_; rintro e w1 ⟨rfl, hb1⟩; have HB1 := Lib.hid hb1; clear hb1)
      | (go_at_call 13; refine (KI.out _).mono ?_; rintro e w' ⟨rfl, rfl⟩)
      | (go_at_call 14; refine (KP.out _).mono ?_; rintro e w' ⟨rfl, rfl⟩))
    go_ret
    exact ⟨rfl, HB1.out⟩
  · have q2 : decide (b < 2) = false := by simpa using h2
    have q3 : decide (36 < b) = true := by simp <;> omega
    clear h
    go_enter Try.func3, Try.ntmps3
    go_wp2_with (first
      | (go_at_call 12; refine (reckons_any _).mono ?_; rintro e w1 ⟨rfl, hb1⟩; have HB1 := Lib.hid hb1; clear hb1)
      | (go_at_call 13; refine (KI.out _).mono ?_; rintro e w' ⟨rfl, rfl⟩)
      | (go_at_call 14; refine (KP.out _).mono ?_; rintro e w' ⟨rfl, rfl⟩))
    go_ret
    exact ⟨rfl, HB1.out⟩
set_option maxRecDepth 100000 in
set_option maxHeartbeats 8000000 in
theorem texts_neg_ten (a : Int) (s : ByteArray) (w : World) (ha : a < 0) (t : ByteArray) (hts : s.extract 1 s.size = t) (hz : 0 < s.size) (hs9 : s.size ≤ 65) (hm : ((s[0].toNat : Int) == 45) = true) (ht : 0 < t.size) (ht64 : t.size ≤ 64)
    (hlead : 1 < t.size → ((t[0].toNat : Int) == 48) = false)
    (hcls : ∀ k (h : k < t.size), (48 ≤ (t[k].toNat : Int) ∧ (t[k].toNat : Int) ≤ 57 ∧ (t[k].toNat : Int) - 48 < 10) ∨ (97 ≤ (t[k].toNat : Int) ∧ (t[k].toNat : Int) ≤ 122 ∧ (t[k].toNat : Int) - 87 < 10))
    (ki : ∀ w, Calls Try.prog 13 #[.int .i64 a, .int .i64 10] w fun e w' => e = .returned (.tuple #[.string s, .int .i64 0]) ∧ Below w.heap.size w w')
    (kp : ∀ w, Calls Try.prog 14 #[.string s, .int .i64 10] w fun e w' => e = .returned (.tuple #[.int .i64 a, .int .i64 0]) ∧ w = w')
    (kt : ∀ w, Calls Try.prog 15 #[.int .i64 a] w fun e w' => e = .returned (.string s) ∧ Below w.heap.size w w') :
    Calls Try.prog 3 #[.int .i64 a, .int .i64 10] w fun e w' => e = .returned (.bool true) ∧ Below w.heap.size w w' := by
  have es := empty_no s hz
  have et := empty_no t ht
  have KI := Lib.hid ki
  have KP := Lib.hid kp
  have KT := Lib.hid kt
  have HC := Lib.hid hcls
  have hs1 : (1 : Int) ≤ (s.size : Int) := by omega
  have q1 : decide (a < 0) = true := by simp <;> omega
  have q64 : decide (64 < (t.size : Int)) = false := by simp <;> omega
  clear ki kp kt hcls
  by_cases h1 : 1 < t.size
  · have hl := hlead h1
    have qq : decide (1 < (t.size : Int)) = true := by simp <;> omega
    clear hlead h1
    go_enter Try.func3, Try.ntmps3
    go_wp2_with (first
      | (go_at_call 12; refine (reckons_any _).mono ?_; rintro e w1 ⟨rfl, hb1⟩; have HB1 := Lib.hid hb1; clear hb1)
      | (go_at_call 13; refine (KI.out _).mono ?_; rintro e w2 ⟨rfl, hb2⟩; have HB2 := Lib.hid hb2; clear hb2)
      | (go_at_call 14; refine (KP.out _).mono ?_; rintro e w' ⟨rfl, rfl⟩))
    go_loop [96] (fun i => ∃ k : Nat, k ≤ t.size ∧ i = .int .i64 k) (fun i => t.size - (intOf i).toNat)
    case atStart => exact ⟨0, Nat.zero_le _, rfl⟩
    case round =>
      obtain ⟨k, hk, rfl⟩ := hrel
      by_cases hlt : k < t.size
      · have hc := HC.out k hlt
        have hk0 : (0 : Int) ≤ (k : Int) := by omega
        have hk1 : (k : Int) < (t.size : Int) := by omega
        rcases hc with ⟨c1, c2, c3⟩ | ⟨c1, c2, c3⟩
        · have t1 : decide (97 ≤ (t[k].toNat : Int)) = false := by simp <;> omega
          have t2 : decide (10 ≤ (t[k].toNat : Int) - 48) = false := by simp <;> omega
          go_wp2
          go_round
          case rel => exact ⟨k + 1, by omega, by go_num⟩
          case measure => simp [intOf] <;> omega
        · have t1 : decide (97 ≤ (t[k].toNat : Int)) = true := by simp <;> omega
          have t3 : decide ((t[k].toNat : Int) ≤ 122) = true := by simp <;> omega
          have t4 : decide (10 ≤ (t[k].toNat : Int) - 97 + 10) = false := by simp <;> omega
          have e4 : IntKind.i64.wrap ((t[k].toNat : Int) - 97 + 10) = (t[k].toNat : Int) - 97 + 10 := IntWalk.i64_in _ (by omega)
          go_wp2
          go_round
          case rel => exact ⟨k + 1, by omega, by go_num⟩
          case measure => simp [intOf] <;> omega
      · have q9 : decide ((k : Int) < (t.size : Int)) = false := decide_eq_false (by omega)
        go_wp2_with (go_at_call 15; refine (KT.out _).mono ?_; rintro e w3 ⟨rfl, hb3⟩; have HB3 := Lib.hid hb3; clear hb3)
        go_ret
        have b2 := HB1.out.trans (HB2.out.mono HB1.out.size)
        exact ⟨by first | rfl | simp, b2.trans (HB3.out.mono b2.size)⟩
  · have qq : decide (1 < (t.size : Int)) = false := by simp <;> omega
    clear hlead h1
    go_enter Try.func3, Try.ntmps3
    go_wp2_with (first
      | (go_at_call 12; refine (reckons_any _).mono ?_; rintro e w1 ⟨rfl, hb1⟩; have HB1 := Lib.hid hb1; clear hb1)
      | (go_at_call 13; refine (KI.out _).mono ?_; rintro e w2 ⟨rfl, hb2⟩; have HB2 := Lib.hid hb2; clear hb2)
      | (go_at_call 14; refine (KP.out _).mono ?_; rintro e w' ⟨rfl, rfl⟩))
    go_loop [96] (fun i => ∃ k : Nat, k ≤ t.size ∧ i = .int .i64 k) (fun i => t.size - (intOf i).toNat)
    case atStart => exact ⟨0, Nat.zero_le _, rfl⟩
    case round =>
      obtain ⟨k, hk, rfl⟩ := hrel
      by_cases hlt : k < t.size
      · have hc := HC.out k hlt
        have hk0 : (0 : Int) ≤ (k : Int) := by omega
        have hk1 : (k : Int) < (t.size : Int) := by omega
        rcases hc with ⟨c1, c2, c3⟩ | ⟨c1, c2, c3⟩
        · have t1 : decide (97 ≤ (t[k].toNat : Int)) = false := by simp <;> omega
          have t2 : decide (10 ≤ (t[k].toNat : Int) - 48) = false := by simp <;> omega
          go_wp2
          go_round
          case rel => exact ⟨k + 1, by omega, by go_num⟩
          case measure => simp [intOf] <;> omega
        · have t1 : decide (97 ≤ (t[k].toNat : Int)) = true := by simp <;> omega
          have t3 : decide ((t[k].toNat : Int) ≤ 122) = true := by simp <;> omega
          have t4 : decide (10 ≤ (t[k].toNat : Int) - 97 + 10) = false := by simp <;> omega
          have e4 : IntKind.i64.wrap ((t[k].toNat : Int) - 97 + 10) = (t[k].toNat : Int) - 97 + 10 := IntWalk.i64_in _ (by omega)
          go_wp2
          go_round
          case rel => exact ⟨k + 1, by omega, by go_num⟩
          case measure => simp [intOf] <;> omega
      · have q9 : decide ((k : Int) < (t.size : Int)) = false := decide_eq_false (by omega)
        go_wp2_with (go_at_call 15; refine (KT.out _).mono ?_; rintro e w3 ⟨rfl, hb3⟩; have HB3 := Lib.hid hb3; clear hb3)
        go_ret
        have b2 := HB1.out.trans (HB2.out.mono HB1.out.size)
        exact ⟨by first | rfl | simp, b2.trans (HB3.out.mono b2.size)⟩
set_option maxRecDepth 100000 in
set_option maxHeartbeats 8000000 in
theorem texts_neg (a : Int) (b : Nat) (s : ByteArray) (w : World) (ha : a < 0) (hb1 : 2 ≤ b) (hb2 : b ≤ 36) (hb10 : b ≠ 10) (t : ByteArray) (hts : s.extract 1 s.size = t) (hz : 0 < s.size) (hs9 : s.size ≤ 65) (hm : ((s[0].toNat : Int) == 45) = true) (ht : 0 < t.size) (ht64 : t.size ≤ 64)
    (hlead : 1 < t.size → ((t[0].toNat : Int) == 48) = false)
    (hcls : ∀ k (h : k < t.size), (48 ≤ (t[k].toNat : Int) ∧ (t[k].toNat : Int) ≤ 57 ∧ (t[k].toNat : Int) - 48 < (b : Int)) ∨ (97 ≤ (t[k].toNat : Int) ∧ (t[k].toNat : Int) ≤ 122 ∧ (t[k].toNat : Int) - 87 < (b : Int)))
    (ki : ∀ w, Calls Try.prog 13 #[.int .i64 a, .int .i64 (b : Int)] w fun e w' => e = .returned (.tuple #[.string s, .int .i64 0]) ∧ Below w.heap.size w w')
    (kp : ∀ w, Calls Try.prog 14 #[.string s, .int .i64 (b : Int)] w fun e w' => e = .returned (.tuple #[.int .i64 a, .int .i64 0]) ∧ w = w')
    (kt : True) :
    Calls Try.prog 3 #[.int .i64 a, .int .i64 (b : Int)] w fun e w' => e = .returned (.bool true) ∧ Below w.heap.size w w' := by
  have es := empty_no s hz
  have et := empty_no t ht
  have KI := Lib.hid ki
  have KP := Lib.hid kp
  have KT := Lib.hid kt
  have HC := Lib.hid hcls
  have hs1 : (1 : Int) ≤ (s.size : Int) := by omega
  have q1 : decide (a < 0) = true := by simp <;> omega
  have q2 : decide ((b : Int) < 2) = false := by simp <;> omega
  have q3 : decide (36 < (b : Int)) = false := by simp <;> omega
  have q4 : ((b : Int) != 10) = true := by simp <;> omega
  clear hb10
  have q64 : decide (64 < (t.size : Int)) = false := by simp <;> omega
  clear ki kp kt hcls
  by_cases h1 : 1 < t.size
  · have hl := hlead h1
    have qq : decide (1 < (t.size : Int)) = true := by simp <;> omega
    clear hlead h1
    go_enter Try.func3, Try.ntmps3
    go_wp2_with (first
      | (go_at_call 12; refine (reckons_any _).mono ?_; rintro e w1 ⟨rfl, hb1⟩; have HB1 := Lib.hid hb1; clear hb1)
      | (go_at_call 13; refine (KI.out _).mono ?_; rintro e w2 ⟨rfl, hb2⟩; have HB2 := Lib.hid hb2; clear hb2)
      | (go_at_call 14; refine (KP.out _).mono ?_; rintro e w' ⟨rfl, rfl⟩))
    go_loop [96] (fun i => ∃ k : Nat, k ≤ t.size ∧ i = .int .i64 k) (fun i => t.size - (intOf i).toNat)
    case atStart => exact ⟨0, Nat.zero_le _, rfl⟩
    case round =>
      obtain ⟨k, hk, rfl⟩ := hrel
      by_cases hlt : k < t.size
      · have hc := HC.out k hlt
        have hk0 : (0 : Int) ≤ (k : Int) := by omega
        have hk1 : (k : Int) < (t.size : Int) := by omega
        rcases hc with ⟨c1, c2, c3⟩ | ⟨c1, c2, c3⟩
        · have t1 : decide (97 ≤ (t[k].toNat : Int)) = false := by simp <;> omega
          have t2 : decide ((b : Int) ≤ (t[k].toNat : Int) - 48) = false := by simp <;> omega
          go_wp2
          go_round
          case rel => exact ⟨k + 1, by omega, by go_num⟩
          case measure => simp [intOf] <;> omega
        · have t1 : decide (97 ≤ (t[k].toNat : Int)) = true := by simp <;> omega
          have t3 : decide ((t[k].toNat : Int) ≤ 122) = true := by simp <;> omega
          have t4 : decide ((b : Int) ≤ (t[k].toNat : Int) - 97 + 10) = false := by simp <;> omega
          have e4 : IntKind.i64.wrap ((t[k].toNat : Int) - 97 + 10) = (t[k].toNat : Int) - 97 + 10 := IntWalk.i64_in _ (by omega)
          go_wp2
          go_round
          case rel => exact ⟨k + 1, by omega, by go_num⟩
          case measure => simp [intOf] <;> omega
      · have q9 : decide ((k : Int) < (t.size : Int)) = false := decide_eq_false (by omega)
        go_wp2
        go_ret
        exact ⟨rfl, HB1.out.trans (HB2.out.mono HB1.out.size)⟩
  · have qq : decide (1 < (t.size : Int)) = false := by simp <;> omega
    clear hlead h1
    go_enter Try.func3, Try.ntmps3
    go_wp2_with (first
      | (go_at_call 12; refine (reckons_any _).mono ?_; rintro e w1 ⟨rfl, hb1⟩; have HB1 := Lib.hid hb1; clear hb1)
      | (go_at_call 13; refine (KI.out _).mono ?_; rintro e w2 ⟨rfl, hb2⟩; have HB2 := Lib.hid hb2; clear hb2)
      | (go_at_call 14; refine (KP.out _).mono ?_; rintro e w' ⟨rfl, rfl⟩))
    go_loop [96] (fun i => ∃ k : Nat, k ≤ t.size ∧ i = .int .i64 k) (fun i => t.size - (intOf i).toNat)
    case atStart => exact ⟨0, Nat.zero_le _, rfl⟩
    case round =>
      obtain ⟨k, hk, rfl⟩ := hrel
      by_cases hlt : k < t.size
      · have hc := HC.out k hlt
        have hk0 : (0 : Int) ≤ (k : Int) := by omega
        have hk1 : (k : Int) < (t.size : Int) := by omega
        rcases hc with ⟨c1, c2, c3⟩ | ⟨c1, c2, c3⟩
        · have t1 : decide (97 ≤ (t[k].toNat : Int)) = false := by simp <;> omega
          have t2 : decide ((b : Int) ≤ (t[k].toNat : Int) - 48) = false := by simp <;> omega
          go_wp2
          go_round
          case rel => exact ⟨k + 1, by omega, by go_num⟩
          case measure => simp [intOf] <;> omega
        · have t1 : decide (97 ≤ (t[k].toNat : Int)) = true := by simp <;> omega
          have t3 : decide ((t[k].toNat : Int) ≤ 122) = true := by simp <;> omega
          have t4 : decide ((b : Int) ≤ (t[k].toNat : Int) - 97 + 10) = false := by simp <;> omega
          have e4 : IntKind.i64.wrap ((t[k].toNat : Int) - 97 + 10) = (t[k].toNat : Int) - 97 + 10 := IntWalk.i64_in _ (by omega)
          go_wp2
          go_round
          case rel => exact ⟨k + 1, by omega, by go_num⟩
          case measure => simp [intOf] <;> omega
      · have q9 : decide ((k : Int) < (t.size : Int)) = false := decide_eq_false (by omega)
        go_wp2
        go_ret
        exact ⟨rfl, HB1.out.trans (HB2.out.mono HB1.out.size)⟩
set_option maxRecDepth 100000 in
set_option maxHeartbeats 8000000 in
theorem texts_pos_ten (a : Int) (s : ByteArray) (w : World) (ha : 0 ≤ a) (hz : 0 < s.size) (hs9 : s.size ≤ 65) (hm : ((s[0].toNat : Int) == 45) = false) (ht : 0 < s.size) (ht64 : s.size ≤ 64)
    (hlead : 1 < s.size → ((s[0].toNat : Int) == 48) = false)
    (hcls : ∀ k (h : k < s.size), (48 ≤ (s[k].toNat : Int) ∧ (s[k].toNat : Int) ≤ 57 ∧ (s[k].toNat : Int) - 48 < 10) ∨ (97 ≤ (s[k].toNat : Int) ∧ (s[k].toNat : Int) ≤ 122 ∧ (s[k].toNat : Int) - 87 < 10))
    (ki : ∀ w, Calls Try.prog 13 #[.int .i64 a, .int .i64 10] w fun e w' => e = .returned (.tuple #[.string s, .int .i64 0]) ∧ Below w.heap.size w w')
    (kp : ∀ w, Calls Try.prog 14 #[.string s, .int .i64 10] w fun e w' => e = .returned (.tuple #[.int .i64 a, .int .i64 0]) ∧ w = w')
    (kt : ∀ w, Calls Try.prog 15 #[.int .i64 a] w fun e w' => e = .returned (.string s) ∧ Below w.heap.size w w') :
    Calls Try.prog 3 #[.int .i64 a, .int .i64 10] w fun e w' => e = .returned (.bool true) ∧ Below w.heap.size w w' := by
  have es := empty_no s hz
  have KI := Lib.hid ki
  have KP := Lib.hid kp
  have KT := Lib.hid kt
  have HC := Lib.hid hcls
  have hs1 : (1 : Int) ≤ (s.size : Int) := by omega
  have q1 : decide (a < 0) = false := by simp <;> omega
  have q64 : decide (64 < (s.size : Int)) = false := by simp <;> omega
  clear ki kp kt hcls
  by_cases h1 : 1 < s.size
  · have hl := hlead h1
    have qq : decide (1 < (s.size : Int)) = true := by simp <;> omega
    clear hlead h1
    go_enter Try.func3, Try.ntmps3
    go_wp2_with (first
      | (go_at_call 12; refine (reckons_any _).mono ?_; rintro e w1 ⟨rfl, hb1⟩; have HB1 := Lib.hid hb1; clear hb1)
      | (go_at_call 13; refine (KI.out _).mono ?_; rintro e w2 ⟨rfl, hb2⟩; have HB2 := Lib.hid hb2; clear hb2)
      | (go_at_call 14; refine (KP.out _).mono ?_; rintro e w' ⟨rfl, rfl⟩))
    go_loop [96] (fun i => ∃ k : Nat, k ≤ s.size ∧ i = .int .i64 k) (fun i => s.size - (intOf i).toNat)
    case atStart => exact ⟨0, Nat.zero_le _, rfl⟩
    case round =>
      obtain ⟨k, hk, rfl⟩ := hrel
      by_cases hlt : k < s.size
      · have hc := HC.out k hlt
        have hk0 : (0 : Int) ≤ (k : Int) := by omega
        have hk1 : (k : Int) < (s.size : Int) := by omega
        rcases hc with ⟨c1, c2, c3⟩ | ⟨c1, c2, c3⟩
        · have t1 : decide (97 ≤ (s[k].toNat : Int)) = false := by simp <;> omega
          have t2 : decide (10 ≤ (s[k].toNat : Int) - 48) = false := by simp <;> omega
          go_wp2
          go_round
          case rel => exact ⟨k + 1, by omega, by go_num⟩
          case measure => simp [intOf] <;> omega
        · have t1 : decide (97 ≤ (s[k].toNat : Int)) = true := by simp <;> omega
          have t3 : decide ((s[k].toNat : Int) ≤ 122) = true := by simp <;> omega
          have t4 : decide (10 ≤ (s[k].toNat : Int) - 97 + 10) = false := by simp <;> omega
          have e4 : IntKind.i64.wrap ((s[k].toNat : Int) - 97 + 10) = (s[k].toNat : Int) - 97 + 10 := IntWalk.i64_in _ (by omega)
          go_wp2
          go_round
          case rel => exact ⟨k + 1, by omega, by go_num⟩
          case measure => simp [intOf] <;> omega
      · have q9 : decide ((k : Int) < (s.size : Int)) = false := decide_eq_false (by omega)
        go_wp2_with (go_at_call 15; refine (KT.out _).mono ?_; rintro e w3 ⟨rfl, hb3⟩; have HB3 := Lib.hid hb3; clear hb3)
        go_ret
        have b2 := HB1.out.trans (HB2.out.mono HB1.out.size)
        exact ⟨by first | rfl | simp, b2.trans (HB3.out.mono b2.size)⟩
  · have qq : decide (1 < (s.size : Int)) = false := by simp <;> omega
    clear hlead h1
    go_enter Try.func3, Try.ntmps3
    go_wp2_with (first
      | (go_at_call 12; refine (reckons_any _).mono ?_; rintro e w1 ⟨rfl, hb1⟩; have HB1 := Lib.hid hb1; clear hb1)
      | (go_at_call 13; refine (KI.out _).mono ?_; rintro e w2 ⟨rfl, hb2⟩; have HB2 := Lib.hid hb2; clear hb2)
      | (go_at_call 14; refine (KP.out _).mono ?_; rintro e w' ⟨rfl, rfl⟩))
    go_loop [96] (fun i => ∃ k : Nat, k ≤ s.size ∧ i = .int .i64 k) (fun i => s.size - (intOf i).toNat)
    case atStart => exact ⟨0, Nat.zero_le _, rfl⟩
    case round =>
      obtain ⟨k, hk, rfl⟩ := hrel
      by_cases hlt : k < s.size
      · have hc := HC.out k hlt
        have hk0 : (0 : Int) ≤ (k : Int) := by omega
        have hk1 : (k : Int) < (s.size : Int) := by omega
        rcases hc with ⟨c1, c2, c3⟩ | ⟨c1, c2, c3⟩
        · have t1 : decide (97 ≤ (s[k].toNat : Int)) = false := by simp <;> omega
          have t2 : decide (10 ≤ (s[k].toNat : Int) - 48) = false := by simp <;> omega
          go_wp2
          go_round
          case rel => exact ⟨k + 1, by omega, by go_num⟩
          case measure => simp [intOf] <;> omega
        · have t1 : decide (97 ≤ (s[k].toNat : Int)) = true := by simp <;> omega
          have t3 : decide ((s[k].toNat : Int) ≤ 122) = true := by simp <;> omega
          have t4 : decide (10 ≤ (s[k].toNat : Int) - 97 + 10) = false := by simp <;> omega
          have e4 : IntKind.i64.wrap ((s[k].toNat : Int) - 97 + 10) = (s[k].toNat : Int) - 97 + 10 := IntWalk.i64_in _ (by omega)
          go_wp2
          go_round
          case rel => exact ⟨k + 1, by omega, by go_num⟩
          case measure => simp [intOf] <;> omega
      · have q9 : decide ((k : Int) < (s.size : Int)) = false := decide_eq_false (by omega)
        go_wp2_with (go_at_call 15; refine (KT.out _).mono ?_; rintro e w3 ⟨rfl, hb3⟩; have HB3 := Lib.hid hb3; clear hb3)
        go_ret
        have b2 := HB1.out.trans (HB2.out.mono HB1.out.size)
        exact ⟨by first | rfl | simp, b2.trans (HB3.out.mono b2.size)⟩
set_option maxRecDepth 100000 in
set_option maxHeartbeats 8000000 in
theorem texts_pos (a : Int) (b : Nat) (s : ByteArray) (w : World) (ha : 0 ≤ a) (hb1 : 2 ≤ b) (hb2 : b ≤ 36) (hb10 : b ≠ 10) (hz : 0 < s.size) (hs9 : s.size ≤ 65) (hm : ((s[0].toNat : Int) == 45) = false) (ht : 0 < s.size) (ht64 : s.size ≤ 64)
    (hlead : 1 < s.size → ((s[0].toNat : Int) == 48) = false)
    (hcls : ∀ k (h : k < s.size), (48 ≤ (s[k].toNat : Int) ∧ (s[k].toNat : Int) ≤ 57 ∧ (s[k].toNat : Int) - 48 < (b : Int)) ∨ (97 ≤ (s[k].toNat : Int) ∧ (s[k].toNat : Int) ≤ 122 ∧ (s[k].toNat : Int) - 87 < (b : Int)))
    (ki : ∀ w, Calls Try.prog 13 #[.int .i64 a, .int .i64 (b : Int)] w fun e w' => e = .returned (.tuple #[.string s, .int .i64 0]) ∧ Below w.heap.size w w')
    (kp : ∀ w, Calls Try.prog 14 #[.string s, .int .i64 (b : Int)] w fun e w' => e = .returned (.tuple #[.int .i64 a, .int .i64 0]) ∧ w = w')
    (kt : True) :
    Calls Try.prog 3 #[.int .i64 a, .int .i64 (b : Int)] w fun e w' => e = .returned (.bool true) ∧ Below w.heap.size w w' := by
  have es := empty_no s hz
  have KI := Lib.hid ki
  have KP := Lib.hid kp
  have KT := Lib.hid kt
  have HC := Lib.hid hcls
  have hs1 : (1 : Int) ≤ (s.size : Int) := by omega
  have q1 : decide (a < 0) = false := by simp <;> omega
  have q2 : decide ((b : Int) < 2) = false := by simp <;> omega
  have q3 : decide (36 < (b : Int)) = false := by simp <;> omega
  have q4 : ((b : Int) != 10) = true := by simp <;> omega
  clear hb10
  have q64 : decide (64 < (s.size : Int)) = false := by simp <;> omega
  clear ki kp kt hcls
  by_cases h1 : 1 < s.size
  · have hl := hlead h1
    have qq : decide (1 < (s.size : Int)) = true := by simp <;> omega
    clear hlead h1
    go_enter Try.func3, Try.ntmps3
    go_wp2_with (first
      | (go_at_call 12; refine (reckons_any _).mono ?_; rintro e w1 ⟨rfl, hb1⟩; have HB1 := Lib.hid hb1; clear hb1)
      | (go_at_call 13; refine (KI.out _).mono ?_; rintro e w2 ⟨rfl, hb2⟩; have HB2 := Lib.hid hb2; clear hb2)
      | (go_at_call 14; refine (KP.out _).mono ?_; rintro e w' ⟨rfl, rfl⟩))
    go_loop [96] (fun i => ∃ k : Nat, k ≤ s.size ∧ i = .int .i64 k) (fun i => s.size - (intOf i).toNat)
    case atStart => exact ⟨0, Nat.zero_le _, rfl⟩
    case round =>
      obtain ⟨k, hk, rfl⟩ := hrel
      by_cases hlt : k < s.size
      · have hc := HC.out k hlt
        have hk0 : (0 : Int) ≤ (k : Int) := by omega
        have hk1 : (k : Int) < (s.size : Int) := by omega
        rcases hc with ⟨c1, c2, c3⟩ | ⟨c1, c2, c3⟩
        · have t1 : decide (97 ≤ (s[k].toNat : Int)) = false := by simp <;> omega
          have t2 : decide ((b : Int) ≤ (s[k].toNat : Int) - 48) = false := by simp <;> omega
          go_wp2
          go_round
          case rel => exact ⟨k + 1, by omega, by go_num⟩
          case measure => simp [intOf] <;> omega
        · have t1 : decide (97 ≤ (s[k].toNat : Int)) = true := by simp <;> omega
          have t3 : decide ((s[k].toNat : Int) ≤ 122) = true := by simp <;> omega
          have t4 : decide ((b : Int) ≤ (s[k].toNat : Int) - 97 + 10) = false := by simp <;> omega
          have e4 : IntKind.i64.wrap ((s[k].toNat : Int) - 97 + 10) = (s[k].toNat : Int) - 97 + 10 := IntWalk.i64_in _ (by omega)
          go_wp2
          go_round
          case rel => exact ⟨k + 1, by omega, by go_num⟩
          case measure => simp [intOf] <;> omega
      · have q9 : decide ((k : Int) < (s.size : Int)) = false := decide_eq_false (by omega)
        go_wp2
        go_ret
        exact ⟨rfl, HB1.out.trans (HB2.out.mono HB1.out.size)⟩
  · have qq : decide (1 < (s.size : Int)) = false := by simp <;> omega
    clear hlead h1
    go_enter Try.func3, Try.ntmps3
    go_wp2_with (first
      | (go_at_call 12; refine (reckons_any _).mono ?_; rintro e w1 ⟨rfl, hb1⟩; have HB1 := Lib.hid hb1; clear hb1)
      | (go_at_call 13; refine (KI.out _).mono ?_; rintro e w2 ⟨rfl, hb2⟩; have HB2 := Lib.hid hb2; clear hb2)
      | (go_at_call 14; refine (KP.out _).mono ?_; rintro e w' ⟨rfl, rfl⟩))
    go_loop [96] (fun i => ∃ k : Nat, k ≤ s.size ∧ i = .int .i64 k) (fun i => s.size - (intOf i).toNat)
    case atStart => exact ⟨0, Nat.zero_le _, rfl⟩
    case round =>
      obtain ⟨k, hk, rfl⟩ := hrel
      by_cases hlt : k < s.size
      · have hc := HC.out k hlt
        have hk0 : (0 : Int) ≤ (k : Int) := by omega
        have hk1 : (k : Int) < (s.size : Int) := by omega
        rcases hc with ⟨c1, c2, c3⟩ | ⟨c1, c2, c3⟩
        · have t1 : decide (97 ≤ (s[k].toNat : Int)) = false := by simp <;> omega
          have t2 : decide ((b : Int) ≤ (s[k].toNat : Int) - 48) = false := by simp <;> omega
          go_wp2
          go_round
          case rel => exact ⟨k + 1, by omega, by go_num⟩
          case measure => simp [intOf] <;> omega
        · have t1 : decide (97 ≤ (s[k].toNat : Int)) = true := by simp <;> omega
          have t3 : decide ((s[k].toNat : Int) ≤ 122) = true := by simp <;> omega
          have t4 : decide ((b : Int) ≤ (s[k].toNat : Int) - 97 + 10) = false := by simp <;> omega
          have e4 : IntKind.i64.wrap ((s[k].toNat : Int) - 97 + 10) = (s[k].toNat : Int) - 97 + 10 := IntWalk.i64_in _ (by omega)
          go_wp2
          go_round
          case rel => exact ⟨k + 1, by omega, by go_num⟩
          case measure => simp [intOf] <;> omega
      · have q9 : decide ((k : Int) < (s.size : Int)) = false := decide_eq_false (by omega)
        go_wp2
        go_ret
        exact ⟨rfl, HB1.out.trans (HB2.out.mono HB1.out.size)⟩
theorem abs_neg {a : Int} (h : a < 0) : -(a.natAbs : Int) = a := by omega
theorem abs_pos {a : Int} (h : ¬ a < 0) : (a.natAbs : Int) = a := by omega
theorem fits_neg {a : Int} (h : -9223372036854775808 ≤ a) (h2 : a ≤ 9223372036854775807) : ¬ ((true = false ∧ 9223372036854775807 < (a.natAbs : Int)) ∨ 9223372036854775808 < (a.natAbs : Int)) := by
  rintro (⟨h, _⟩ | h)
  · cases h
  · omega
theorem fits_pos {a : Int} (h : ¬ a < 0) (h2 : a ≤ 9223372036854775807) : ¬ ((false = false ∧ 9223372036854775807 < (a.natAbs : Int)) ∨ 9223372036854775808 < (a.natAbs : Int)) := by
  rintro (⟨_, h⟩ | h) <;> omega
theorem get_of {s : ByteArray} {l : List UInt8} (h : bys s = l) (k : Nat) (hk : k < s.size) : ∃ h' : k < l.length, s[k] = l[k] := by
  subst h
  exact ⟨by simpa using hk, rfl⟩
theorem good_of {b : Nat} (hb : b ≤ 36) {E : List UInt8} (h : ∀ c ∈ E, ∃ d, d < b ∧ c = chr d) : ∀ c ∈ E, goodB b c = true := by
  intro c hc
  obtain ⟨d, hd, rfl⟩ := h c hc
  have := chr_dg ⟨d, by omega⟩
  simp only at this
  exact decide_eq_true (by rw [this]; omega)
theorem cls_of {b : Nat} (hb : b ≤ 36) {E : List UInt8} (h : ∀ c ∈ E, ∃ d, d < b ∧ c = chr d) {t : ByteArray} (ht : bys t = E) :
    ∀ k (h : k < t.size), (48 ≤ (t[k].toNat : Int) ∧ (t[k].toNat : Int) ≤ 57 ∧ (t[k].toNat : Int) - 48 < (b : Int)) ∨ (97 ≤ (t[k].toNat : Int) ∧ (t[k].toNat : Int) ≤ 122 ∧ (t[k].toNat : Int) - 87 < (b : Int)) := by
  intro k hk
  obtain ⟨h', e⟩ := get_of ht k hk
  obtain ⟨d, hd, e2⟩ := h E[k] (List.getElem_mem h')
  have hc := chr_cls ⟨d, by omega⟩
  simp only at hc
  rw [e, e2]
  omega
theorem lead_of {b : Nat} (hb : b ≤ 36) {E : List UInt8} (h : 1 < E.length → ∃ d, 0 < d ∧ d < b ∧ E.head? = some (chr d)) {t : ByteArray} (ht : bys t = E) (h0 : 0 < t.size) : 1 < t.size → ((t[0].toNat : Int) == 48) = false := by
  intro h1
  obtain ⟨h', e⟩ := get_of ht 0 h0
  have hl : E.length = t.size := by rw [← ht]; simp
  obtain ⟨d, d1, d2, d3⟩ := h (by omega)
  rw [List.head?_eq_getElem?, List.getElem?_eq_getElem h'] at d3
  injection d3 with d3
  have hc := chr_cls ⟨d, by omega⟩
  simp only at hc
  rw [e, d3]
  simp only [beq_eq_false_iff_ne]
  omega
theorem head_not {b : Nat} (hb : b ≤ 36) {E : List UInt8} (h : ∀ c ∈ E, ∃ d, d < b ∧ c = chr d) : E.head? ≠ some 45 := by
  intro e
  rcases E with _ | ⟨c, l⟩
  · simp at e
  · simp at e
    obtain ⟨d, hd, e2⟩ := h c (by simp)
    have hc := chr_cls ⟨d, by omega⟩
    simp only at hc
    rw [← e2, e] at hc
    rw [show (45 : UInt8).toNat = 45 from rfl] at hc
    omega
theorem numTexts_guard (a b : Int) (wa : (Lit.int .i64 a).wf = true) (w : World) : Calls Try.prog 3 #[.int .i64 a, .int .i64 b] w fun e w' => e = .returned (.bool true) ∧ Below w.heap.size w w' := by
  by_cases hb : b < 2 ∨ 36 < b
  · exact texts_out a b w hb
  obtain ⟨n, rfl⟩ := Int.eq_ofNat_of_zero_le (show 0 ≤ b by omega)
  have hn1 : 2 ≤ n := by omega
  have hn2 : n ≤ 36 := by omega
  have ia := wf_i64 wa
  obtain ⟨i1, i2⟩ := ia
  obtain ⟨E, e1, e2, e3, e4, e5, e6, _⟩ := digs_spec n hn1 hn2 65 a.natAbs [] 64 (by omega) (by omega) (by omega)
  rw [List.append_nil] at e1
  have el : 0 < E.length := List.length_pos_iff.2 e2
  have ki := fun w => in_any a n w ⟨i1, i2⟩ hn1 hn2
  have kt : n = 10 → ∀ w, Calls Try.prog 15 #[.int .i64 a] w fun e w' => e = .returned (.string ⟨(inL a n).toArray⟩) ∧ Below w.heap.size w w' := by
    rintro rfl w
    exact text_any a w ⟨i1, i2⟩
  unfold AftIn at ki
  by_cases hneg : a < 0
  · have hl : inL a n = 45 :: E := by unfold inL; rw [if_pos hneg, e1]; rfl
    rw [hl] at ki kt
    obtain ⟨s, hs⟩ : ∃ s : ByteArray, (⟨(45 :: E).toArray⟩ : ByteArray) = s := ⟨_, rfl⟩
    have hbs : bys s = 45 :: E := by rw [← hs]
    rw [hs] at ki kt
    have hsz : s.size = E.length + 1 := by have h : (bys s).length = s.size := by simp
                                           rw [hbs] at h; simpa using h.symm
    have hbt : bys (s.extract 1 s.size) = E := by
      show (s.extract 1 s.size).data.toList = _
      rw [Lib.extract_data, show s.data.toList = 45 :: E from hbs, List.take_of_length_le (by simp; omega)]
      rfl
    have htz : (s.extract 1 s.size).size = E.length := by rw [← hbt]; simp
    have kp : ∀ w, Calls Try.prog 14 #[.string s, .int .i64 (n : Int)] w fun e w' => e = .returned (.tuple #[.int .i64 a, .int .i64 0]) ∧ w = w' := fun w => by
      have h := parse_any s n w (by omega) (by omega) (by omega)
      have hp : parseO (bys s) n = (a, 0) := by
        rw [hbs]
        unfold parseO
        rw [show restL (45 :: E) = E from rfl, show minusL (45 :: E) = true from rfl, if_neg (fun h => h.elim e2 (fun h => h (good_of hn2 e4))), e5, if_neg (fits_neg i1 i2), if_pos rfl, abs_neg hneg]
      rwa [hp] at h
    have hm : ((s[0].toNat : Int) == 45) = true := by
      obtain ⟨h', e⟩ := get_of hbs 0 (by omega)
      rw [e]; rfl
    by_cases h10 : n = 10
    · have kt' := kt h10
      subst h10
      exact texts_neg_ten a s w hneg _ rfl (by omega) (by omega) hm (by omega) (by omega) (lead_of hn2 e6 hbt (by omega)) (cls_of hn2 e4 hbt) ki kp kt'
    · exact texts_neg a n s w hneg hn1 hn2 h10 _ rfl (by omega) (by omega) hm (by omega) (by omega) (lead_of hn2 e6 hbt (by omega)) (cls_of hn2 e4 hbt) ki kp trivial
  · have hl : inL a n = E := by unfold inL; rw [if_neg hneg, e1]; rfl
    rw [hl] at ki kt
    obtain ⟨s, hs⟩ : ∃ s : ByteArray, (⟨E.toArray⟩ : ByteArray) = s := ⟨_, rfl⟩
    have hbs : bys s = E := by rw [← hs]
    rw [hs] at ki kt
    have hsz : s.size = E.length := by rw [← hbs]; simp
    have kp : ∀ w, Calls Try.prog 14 #[.string s, .int .i64 (n : Int)] w fun e w' => e = .returned (.tuple #[.int .i64 a, .int .i64 0]) ∧ w = w' := fun w => by
      have h := parse_any s n w (by omega) (by omega) (by omega)
      have hnh := head_not hn2 e4
      have hp : parseO (bys s) n = (a, 0) := by
        rw [hbs]
        unfold parseO
        rw [show restL E = E from by unfold restL; rw [if_neg hnh], show minusL E = false from decide_eq_false hnh, if_neg (fun h => h.elim e2 (fun h => h (good_of hn2 e4))), e5, if_neg (fits_pos hneg i2), if_neg (by simp), abs_pos hneg]
      rwa [hp] at h
    have hm : ((s[0].toNat : Int) == 45) = false := by
      obtain ⟨h', e⟩ := get_of hbs 0 (by omega)
      have hnh := head_not hn2 e4
      rw [List.head?_eq_getElem?, List.getElem?_eq_getElem h'] at hnh
      simp only [beq_eq_false_iff_ne]
      intro h45
      exact hnh (by congr 1; apply UInt8.toNat_inj.1; rw [← e]; show s[0].toNat = 45; omega)
    by_cases h10 : n = 10
    · have kt' := kt h10
      subst h10
      exact texts_pos_ten a s w (by omega) (by omega) (by omega) hm (by omega) (by omega) (lead_of hn2 e6 hbs (by omega)) (cls_of hn2 e4 hbs) ki kp kt'
    · exact texts_pos a n s w (by omega) hn1 hn2 h10 (by omega) (by omega) hm (by omega) (by omega) (lead_of hn2 e6 hbs (by omega)) (cls_of hn2 e4 hbs) ki kp trivial
namespace numTexts
open Go.ChangeShapes Go.WideShapes Go.ChangeAt Go.RowKit
open Go.ChangeMaps (open_string shut_string)
theorem laidOut : laidOutB Try.prog = true := by kernel_rfl
theorem own : ownKnob Try.prog.godebug = none := by kernel_rfl
set_option maxRecDepth 100000 in
theorem lifted (os : Os) (started : os.Started) (H : Type) (enc : TypeId × Value → H) :
    ReturnsInHanded {} Try.checked os 3 .any (Rows.numTextsSpec.pre6 enc Try.prog Try.f3 Rows.numTextsRow.domain false) (Rows.numTextsSpec.post enc Try.prog Try.f3 false true false false) := by
  refine returnsInHanded_of_change (C := Try.checked) own started (by kernel_rfl) Try.func3
    (ChangeSpec.witness6 (enc := enc) (C := Try.checked) false ⟨#[], #[.int .i64 0, .int .i64 0], []⟩ 8 (by kernel_rfl) (by kernel_rfl) (by kernel_rfl) (by kernel_rfl)) ?_
  intro W base args ds gs before hval0 hW hcnd _
  have hval : ∀ (j : Nat) t v, Try.f3.params[j]? = some t → args[j]? = some v → Value.okWide Try.prog W .any base t v := hval0
  have hW' := hW
  obtain ⟨p, q, hA0, hV, rfl, hfz, hnd⟩ := hW
  have hA : DataW.TrodAll enc Try.prog W 0 (fun _ => true) true Try.f3.params.toList args.toList ds p := hA0
  rw [Try.params3] at hA hval
  obtain ⟨v0, vs0, d0, ds0, p0, q0, hargs, rfl, rfl, h0, r0⟩ := trodAll_cons hA
  obtain ⟨v1, vs1, d1, ds1, p1, q1, rfl, rfl, rfl, h1, r1⟩ := trodAll_cons r0
  obtain ⟨rfl, rfl, rfl⟩ := trodAll_nil r1
  obtain rfl : args = #[v0, v1] := by cases args; simp_all
  obtain ⟨rfl, rfl⟩ := trodVars_none hV
  have k0 := h0
  have lt0 : ∀ x ∈ p0, x.block < W.heap.size := by obtain ⟨m, hm⟩ := k0; exact DataW.trod_lt m _ _ _ hm
  have k1 := h1
  have lt1 : ∀ x ∈ p1, x.block < W.heap.size := by obtain ⟨m, hm⟩ := k1; exact DataW.trod_lt m _ _ _ hm
  obtain ⟨a0, rfl, rfl, rfl, w0⟩ := open_int Try.underlying2 (hval 0 2 v0 rfl rfl) h0
  obtain ⟨a1, rfl, rfl, rfl, w1⟩ := open_int Try.underlying3 (hval 1 3 v1 rfl rfl) h1
  clear hA0 hval0
  refine (numTexts_guard a0 a1 w0 W).mono fun e W' ⟨he, bel⟩ => ?_
  subst he
  exact ⟨_, rfl, _, _, _, [], _, [], hW', trodAll_mk1 (shut_bool Try.underlying4 _), (trodAll_cons_mk (Below.trod laidOut (by kernel_rfl) (of_decide_eq_true (by kernel_rfl)) k0 bel lt0) (trodAll_cons_mk (Below.trod laidOut (by kernel_rfl) (of_decide_eq_true (by kernel_rfl)) k1 bel lt1) trodAll_mk0)), rfl, bel.frame _, fun h => by cases h⟩
theorem over : Rows.numTextsRow.holds Try.pinned (OpenSpec.ofChange Rows.numTextsSpec) :=
  OpenClaim.holds_of_wide 3 Try.f3 rfl rfl rfl rfl rfl rfl rfl ⟨rfl, rfl, rfl, rfl, rfl⟩ rfl rfl rfl rfl rfl (by kernel_rfl) Try.func3 (by kernel_rfl)
    (of_decide_eq_true (by kernel_rfl)) (by unfold Func.isWrapper; first | (rw [if_pos (by decide +kernel)]; kernel_rfl) | (rw [if_neg (by decide +kernel)]; exact ⟨rfl, rfl⟩))
    (fun os started H enc _ => lifted os started H enc)
theorem proved : Rows.NumTextsSaid := over
#print axioms proved
end numTexts
end Go.Proofs.Ytcjmoobdoinbkaa
