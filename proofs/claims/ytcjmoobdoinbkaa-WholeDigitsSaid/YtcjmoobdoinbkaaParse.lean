/- The contract of num.Parse. Conditions: the base is from 2 to 36, the text no longer than a Go text is. -/
import Derived.Test.YtcjmoobdoinbkaaDigit
namespace Go.Proofs.Ytcjmoobdoinbkaa
open Go.RowKit
def dg (c : UInt8) : Int := dig (c.toNat : Int)
/-- A digit of the base. -/
def goodB (b : Int) (c : UInt8) : Bool := decide (0 ≤ dg c ∧ dg c < b)
/-- The number of digits. -/
def accN (b : Int) (l : List UInt8) : Int := l.foldl (fun n c => n * b + dg c) 0
theorem accN_snoc (b : Int) (l : List UInt8) (c : UInt8) : accN b (l ++ [c]) = accN b l * b + dg c := by simp [accN]
theorem accN_nn (b : Int) (hb : 0 ≤ b) (l : List UInt8) (h : ∀ c ∈ l, goodB b c = true) : 0 ≤ accN b l := by
  unfold accN
  suffices ∀ n : Int, 0 ≤ n → 0 ≤ l.foldl (fun n c => n * b + dg c) n from this 0 (by omega)
  induction l with
  | nil => intro n hn; simpa using hn
  | cons c l ih =>
    intro n hn
    rw [List.foldl_cons]
    have hc := h c (by simp)
    unfold goodB at hc
    have := Int.mul_nonneg hn hb
    exact ih (fun x hx => h x (by simp [hx])) _ (by simp at hc; omega)
def over (n : Int) : Bool := decide (18446744073709551616 ≤ n)
theorem over_step (N b d : Int) (hN : 0 ≤ N) (hb : 2 ≤ b) (hd : 0 ≤ d) :
    (over N || (decide (0 < N % 18446744073709551616 * b / 18446744073709551616) || decide (0 < (N % 18446744073709551616 * b % 18446744073709551616 + d) / 18446744073709551616))) = over (N * b + d) := by
  have hm : N * 2 ≤ N * b := Int.mul_le_mul_of_nonneg_left hb hN
  unfold over
  by_cases h : 18446744073709551616 ≤ N
  · rw [decide_eq_true h, decide_eq_true (show 18446744073709551616 ≤ N * b + d by omega)]; rfl
  · rw [decide_eq_false h, Int.emod_eq_of_lt hN (by omega), Bool.false_or]
    generalize N * b = p at *
    by_cases h1 : 0 < p / 18446744073709551616
    · rw [decide_eq_true h1, decide_eq_true (show 18446744073709551616 ≤ p + d by omega)]; rfl
    · rw [decide_eq_false h1, Bool.false_or]
      congr 1
      rw [eq_iff_iff]
      omega
theorem low_step (N b d : Int) : (N % 18446744073709551616 * b % 18446744073709551616 + d) % 18446744073709551616 = (N * b + d) % 18446744073709551616 := by
  have : N % 18446744073709551616 * b % 18446744073709551616 = N * b % 18446744073709551616 := by rw [Int.mul_emod, Int.emod_emod, ← Int.mul_emod]
  rw [this]; omega
theorem low_step' (N b d : Int) : (N % 18446744073709551616 * b + d) % 18446744073709551616 = (N * b + d) % 18446744073709551616 := by
  rw [← low_step N b d]; omega
theorem u64_eq {a b : Int} (h : a = b) : Value.int .u64 a = Value.int .u64 b := by rw [h]
theorem bool_eq {a b : Bool} (h : a = b) : Value.bool a = Value.bool b := by rw [h]
theorem neg_back (N : Int) (h0 : 0 ≤ N) (h1 : N ≤ 9223372036854775808) : wrap64 (IntKind.u64.wrap (-N)) = -N := by rw [u64_mod]; unfold wrap64; omega
theorem tup2 {k k' : IntKind} {a b a' b' : Int} (h : a = b) (h' : a' = b') : Value.tuple #[.int k a, .int k' a'] = Value.tuple #[.int k b, .int k' b'] := by rw [h, h']
theorem take_snoc (l : List UInt8) (k : Nat) (h : k < l.length) : l.take (k + 1) = l.take k ++ [l[k]] := by
  rw [List.take_succ_eq_append_getElem h]
/-- Behind a minus, and whether there is one. -/
def restL (l : List UInt8) : List UInt8 := if l.head? = some 45 then l.drop 1 else l
def minusL (l : List UInt8) : Bool := decide (l.head? = some 45)
def parseO (l : List UInt8) (b : Int) : Int × Int :=
  if restL l = [] ∨ ¬ (∀ c ∈ restL l, goodB b c = true) then (0, 5)
  else if (minusL l = false ∧ 9223372036854775807 < accN b (restL l)) ∨ 9223372036854775808 < accN b (restL l) then (0, 11)
  else if minusL l = true then (- accN b (restL l), 0) else (accN b (restL l), 0)
theorem parse_base (s : ByteArray) (b : Int) (w : World) (hb : b < 2 ∨ 36 < b) : Calls Try.prog 14 #[.string s, .int .i64 b] w fun e w' => e = .returned (.tuple #[.int .i64 0, .int .i64 1]) ∧ w = w' := by
  by_cases h : b < 2
  · have h1 : decide (b < 2) = true := by simpa using h
    clear hb
    go_enter Try.func14, Try.ntmps14
    go_wp2
    go_ret2
    exact ⟨rfl, rfl⟩
  · have h1 : decide (b < 2) = false := by simpa using h
    have h2 : decide (36 < b) = true := by simp; omega
    clear hb
    go_enter Try.func14, Try.ntmps14
    go_wp2
    go_ret2
    exact ⟨rfl, rfl⟩
/-- What Parse leaves once the sign is off. -/
def Parsed (r : List UInt8) (mn : Bool) (b : Int) (w : World) (e : Ending) (w' : World) : Prop :=
  w = w' ∧ e = .returned (if r = [] ∨ ¬ (∀ c ∈ r, goodB b c = true) then .tuple #[.int .i64 0, .int .i64 5]
    else if (mn = false ∧ 9223372036854775807 < accN b r) ∨ 9223372036854775808 < accN b r then .tuple #[.int .i64 0, .int .i64 11]
    else if mn = true then .tuple #[.int .i64 (- accN b r), .int .i64 0] else .tuple #[.int .i64 (accN b r), .int .i64 0])
theorem get_bys (t : ByteArray) (k : Nat) (h : k < t.size) : (bys t)[k]'(by simpa using h) = t[k] := rfl
set_option maxHeartbeats 2000000 in
theorem parse_rest (s t : ByteArray) (mn : Bool) (b : Int) (w : World) (hb1 : 2 ≤ b) (hb2 : b ≤ 36) (ht : t.size ≤ 9223372036854775807)
    (hcut : ∀ w, Calls Try.prog 52 #[.string s, .string ⟨#[45]⟩] w fun e w' => e = .returned (.tuple #[.string t, .bool mn]) ∧ w = w') :
    Calls Try.prog 14 #[.string s, .int .i64 b] w (Parsed (bys t) mn b w) := by
  have HC := Lib.hid hcut
  clear hcut
  have q1 : decide (b < 2) = false := by simp; omega
  have q2 : decide (36 < b) = false := by simp; omega
  by_cases he : bys t = []
  · have HE : Hid (bys t = []) := he
    have e1 : t.toList = [] := by rw [Lib.toList_data]; exact he
    clear he
    have e2 : t.toList.isEmpty = true := by rw [e1]; rfl
    clear e1
    go_enter Try.func14, Try.ntmps14
    go_wp2_with (go_at_call 52; refine (HC.out _).mono ?_; rintro e w' ⟨rfl, rfl⟩)
    go_ret2
    exact ⟨rfl, by rw [if_pos (.inl HE.out)]; rfl⟩
  · have HE := Lib.hid he
    have e2 : t.toList.isEmpty = false := by rw [Lib.toList_data]; simpa using he
    clear he
    go_enter Try.func14, Try.ntmps14
    go_wp2_with (go_at_call 52; refine (HC.out _).mono ?_; rintro e w' ⟨rfl, rfl⟩)
    go_loop [8, 9, 31] (fun n o i => ∃ k : Nat, k ≤ t.size ∧ i = .int .i64 k ∧ (∀ c ∈ (bys t).take k, goodB b c = true) ∧ n = .int .u64 (accN b ((bys t).take k) % 18446744073709551616) ∧ o = .bool (over (accN b ((bys t).take k)))) (fun _ _ i => t.size - (intOf i).toNat)
    case atStart => exact ⟨0, Nat.zero_le _, rfl, by simp, rfl, rfl⟩
    case round =>
      obtain ⟨k, hk, rfl, hgood, rfl, rfl⟩ := hrel
      have hN := accN_nn b (by omega) _ hgood
      have HG := Lib.hid hgood
      clear hgood
      obtain ⟨N, hNN⟩ : ∃ N, accN b ((bys t).take k) = N := ⟨_, rfl⟩
      rw [hNN] at hN ⊢
      have HN := Lib.hid hNN
      clear hNN
      by_cases hlt : k < t.size
      · have hc0 : (0 : Int) ≤ (t[k].toNat : Int) := by omega
        have hc1 : (t[k].toNat : Int) ≤ 255 := by have := t[k].toNat_lt; omega
        by_cases hgd : 0 ≤ dig (t[k].toNat : Int) ∧ dig (t[k].toNat : Int) < b
        · obtain ⟨g1, g2⟩ := hgd
          have d1 : decide (dig (t[k].toNat : Int) < 0) = false := by simpa using g1
          have d2 : decide (b ≤ dig (t[k].toNat : Int)) = false := by simpa using g2
          have HS : Hid (accN b ((bys t).take (k + 1)) = N * b + dig (t[k].toNat : Int)) := by
            rw [take_snoc _ k (by simpa using hlt), accN_snoc, HN.out]; rfl
          have HG' : Hid (∀ c ∈ (bys t).take (k + 1), goodB b c = true) := by
            intro c hc
            rw [take_snoc _ k (by simpa using hlt)] at hc
            rcases List.mem_append.1 hc with hc | hc
            · exact HG.out c hc
            · obtain rfl : c = (bys t)[k]'(by simpa using hlt) := by simpa using hc
              exact decide_eq_true (show 0 ≤ dg t[k] ∧ dg t[k] < b from ⟨g1, g2⟩)
          have HO := Lib.hid (over_step N b (dig (t[k].toNat : Int)) hN hb1 g1)
          have hadd := fun W => add64_any (N % 18446744073709551616 * b % 18446744073709551616) (dig (t[k].toNat : Int)) W (Int.emod_nonneg _ (by decide)) g1
          go_wp2_with (first | (go_at_call 53; refine (digit_any _ _ ⟨hc0, hc1⟩).mono ?_; rintro e w' ⟨rfl, rfl⟩) | (go_at_call 54; refine (mul64_any _ _ _ ⟨by omega, by omega⟩ ⟨by omega, by omega⟩).mono ?_; rintro e w' ⟨rfl, rfl⟩))
          all_goals
            go_round
            case rel =>
              refine ⟨k + 1, by omega, by go_num, HG'.out, by rw [HS.out]; exact u64_eq (low_step' _ _ _), ?_⟩
              rw [HS.out, ← HO.out]
              first
                | (have h1 : over N = true := by assumption
                   simp [h1])
                | (have h1 : over N = false := by simpa using (by assumption : ¬ over N = true)
                   rw [h1]
                   first | rfl | (rw [decide_eq_true (show 0 < N % 18446744073709551616 * b / 18446744073709551616 by omega)]; simp))
            case measure => simp [intOf]; omega
        · have HB : Hid (¬ ∀ c ∈ bys t, goodB b c = true) := by
            intro hall
            have h1 := hall t[k] (by have := List.getElem_mem (l := bys t) (n := k) (by simpa using hlt); exact this)
            exact hgd (of_decide_eq_true h1)
          by_cases g1 : 0 ≤ dig (t[k].toNat : Int)
          · have d1 : decide (dig (t[k].toNat : Int) < 0) = false := by simpa using g1
            have d2 : decide (b ≤ dig (t[k].toNat : Int)) = true := by simp; omega
            clear hgd
            go_wp2_with (go_at_call 53; refine (digit_any _ _ ⟨hc0, hc1⟩).mono ?_; rintro e w' ⟨rfl, rfl⟩)
            go_ret2
            exact ⟨rfl, by rw [if_pos (.inr HB.out)]; rfl⟩
          · have d1 : decide (dig (t[k].toNat : Int) < 0) = true := by simp; omega
            clear hgd
            go_wp2_with (go_at_call 53; refine (digit_any _ _ ⟨hc0, hc1⟩).mono ?_; rintro e w' ⟨rfl, rfl⟩)
            go_ret2
            exact ⟨rfl, by rw [if_pos (.inr HB.out)]; rfl⟩
      · have hkt : k = t.size := by omega
        have htk : (bys t).take k = bys t := List.take_of_length_le (by simp; omega)
        have hNb : accN b (bys t) = N := by rw [← htk]; exact HN.out
        have hgb : ∀ c ∈ bys t, goodB b c = true := by have := HG.out; rwa [htk] at this
        have HP : ∀ v, (if (mn = false ∧ 9223372036854775807 < N) ∨ 9223372036854775808 < N then Value.tuple #[.int .i64 0, .int .i64 11]
            else if mn = true then .tuple #[.int .i64 (- N), .int .i64 0] else .tuple #[.int .i64 N, .int .i64 0]) = v → Parsed (bys t) mn b w (.returned v) w := by
          intro v hv
          refine ⟨rfl, ?_⟩
          rw [if_neg (fun h => h.elim HE.out (fun h => h hgb)), hNb, hv]
        have HPP := Lib.hid HP
        clear HP hNb hgb htk hkt HG HN HE
        by_cases ho : over N = true
        · have hbig : 18446744073709551616 ≤ N := of_decide_eq_true ho
          go_wp2
          go_ret2
          exact HPP.out _ (by rw [if_pos (.inr (by omega))]; rfl)
        · have hbig : N < 18446744073709551616 := by
            rcases Int.lt_or_le N 18446744073709551616 with h | h
            · exact h
            · exact absurd (decide_eq_true h) ho
          have hof : over N = false := by simpa using ho
          clear ho
          rw [Int.emod_eq_of_lt hN hbig, hof]
          clear hof
          cases mn
          · by_cases hp : 9223372036854775807 < N
            · have d1 : decide (9223372036854775807 < N) = true := by simpa using hp
              go_wp2
              go_ret2
              exact HPP.out _ (by rw [if_pos (.inl ⟨by simp, hp⟩)]; rfl)
            · have d1 : decide (9223372036854775807 < N) = false := by simpa using hp
              go_wp2
              go_ret2
              exact HPP.out _ (by rw [if_neg (by simp; omega), if_neg (by simp)]; rfl)
          · by_cases hp : 9223372036854775808 < N
            · have d1 : decide (9223372036854775808 < N) = true := by simpa using hp
              go_wp2
              go_ret2
              exact HPP.out _ (by rw [if_pos (.inr hp)]; rfl)
            · have d1 : decide (9223372036854775808 < N) = false := by simpa using hp
              go_wp2
              go_ret2
              exact HPP.out _ (by rw [if_neg (by simp; omega), if_pos (by simp)]; exact tup2 (neg_back N hN (by omega)).symm rfl)
theorem parse_any (s : ByteArray) (b : Int) (w : World) (hb1 : 2 ≤ b) (hb2 : b ≤ 36) (hs : s.size ≤ 9223372036854775807) :
    Calls Try.prog 14 #[.string s, .int .i64 b] w fun e w' => e = .returned (.tuple #[.int .i64 (parseO (bys s) b).1, .int .i64 (parseO (bys s) b).2]) ∧ w = w' := by
  have fin : ∀ e w', Parsed (restL (bys s)) (minusL (bys s)) b w e w' → e = .returned (.tuple #[.int .i64 (parseO (bys s) b).1, .int .i64 (parseO (bys s) b).2]) ∧ w = w' := by
    rintro e w' ⟨rfl, rfl⟩
    refine ⟨?_, rfl⟩
    congr 1
    unfold parseO
    split
    · rfl
    · split
      · rfl
      · split <;> rfl
  by_cases h : (bys s).head? = some 45
  · have e1 : restL (bys s) = bys (s.extract 1 s.size) := by
      unfold restL; rw [if_pos h]
      show _ = (s.extract 1 s.size).data.toList
      rw [Lib.extract_data, List.take_of_length_le (by simp)]
    have e2 : minusL (bys s) = true := decide_eq_true h
    rw [e1, e2] at fin
    exact (parse_rest s (s.extract 1 s.size) true b w hb1 hb2 (by simp; omega) (fun w => cut_yes s w h hs)).mono fin
  · have e1 : restL (bys s) = bys s := by unfold restL; rw [if_neg h]
    have e2 : minusL (bys s) = false := decide_eq_false h
    rw [e1, e2] at fin
    exact (parse_rest s s false b w hb1 hb2 hs (fun w => cut_no s w h hs)).mono fin
end Go.Proofs.Ytcjmoobdoinbkaa
