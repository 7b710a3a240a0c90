/- The contract of num.Leading. Condition: the text is no longer than a Go text is. -/
import Derived.Test.YtcjmoobdoinbkaaDigit
namespace Go.Proofs.Ytcjmoobdoinbkaa
open Go.RowKit
set_option linter.unusedVariables false
def isD (c : UInt8) : Bool := decide (48 ≤ (c.toNat : Int) ∧ (c.toNat : Int) ≤ 57)
/-- The digits that a list begins with. -/
def run (l : List UInt8) : List UInt8 := l.takeWhile isD
def accT (l : List UInt8) : Int := l.foldl (fun n c => n * 10 + ((c.toNat : Int) - 48)) 0
theorem accT_snoc (l : List UInt8) (c : UInt8) : accT (l ++ [c]) = accT l * 10 + ((c.toNat : Int) - 48) := by simp [accT]
theorem run_in (l : List UInt8) : ∀ (j : Nat) (h : j < (run l).length), ∃ h' : j < l.length, (run l)[j] = l[j] ∧ isD l[j] = true := by
  induction l with
  | nil => intro j h; simp [run] at h
  | cons c l ih =>
    intro j h
    by_cases hc : isD c = true
    · have e : run (c :: l) = c :: run l := by simp [run, hc]
      cases j with
      | zero => exact ⟨by simp, by simp [e], by simpa using hc⟩
      | succ j =>
        obtain ⟨h1, h2, h3⟩ := ih j (by simp [e] at h; exact h)
        exact ⟨by simp; exact h1, by simp [e, h2], by simpa using h3⟩
    · have e : run (c :: l) = [] := by simp [run, hc]
      rw [e] at h; simp at h
theorem run_le (l : List UInt8) : (run l).length ≤ l.length := by
  rcases Nat.eq_zero_or_pos (run l).length with h | h
  · omega
  · obtain ⟨h1, _⟩ := run_in l ((run l).length - 1) (by omega); omega
theorem run_out (l : List UInt8) (h : (run l).length < l.length) : isD (l[(run l).length]'h) = false := by
  induction l with
  | nil => simp at h
  | cons c l ih =>
    by_cases hc : isD c = true
    · have e : run (c :: l) = c :: run l := by simp [run, hc]
      simp only [e, List.length_cons, List.getElem_cons_succ] at h ⊢
      exact ih (by omega)
    · have e : run (c :: l) = [] := by simp [run, hc]
      simp only [e, List.length_nil, List.getElem_cons_zero]
      simpa using hc
/-- How many bytes a sign takes. -/
def sgn (l : List UInt8) : Nat := if l.head? = some 45 ∨ l.head? = some 43 then 1 else 0
def leadO (l : List UInt8) : Int × Int :=
  let r := run (l.drop (sgn l))
  if r = [] then (0, 0) else (if l.head? = some 45 then wrap64 (- accT r) else wrap64 (accT r), ((sgn l + r.length : Nat) : Int))
/-- What Leading leaves from the sign on. -/
def Leads (l : List UInt8) (f : Nat) (mn : Bool) (w : World) (e : Ending) (w' : World) : Prop :=
  w = w' ∧ e = .returned (if run (l.drop f) = [] then .tuple #[.int .i64 0, .int .i64 0] else .tuple #[.int .i64 (if mn = true then wrap64 (- accT (run (l.drop f))) else wrap64 (accT (run (l.drop f)))), .int .i64 ((f + (run (l.drop f)).length : Nat) : Int)])
theorem take_snoc' (l : List UInt8) (k : Nat) (h : k < l.length) : l.take (k + 1) = l.take k ++ [l[k]] := by
  rw [List.take_succ_eq_append_getElem h]
theorem at_drop (s : ByteArray) (f j : Nat) (h : j < ((bys s).drop f).length) : ∃ h' : f + j < s.size, ((bys s).drop f)[j] = s[f + j] := by
  have h' : f + j < s.size := by simp at h; omega
  exact ⟨h', by rw [List.getElem_drop]; rfl⟩
theorem lead_step (X D : Int) : wrap64 (wrap64 (wrap64 X * 10) + D) = wrap64 (X * 10 + D) := by unfold wrap64; omega
theorem i64_eq {a b : Int} (h : a = b) : Value.int .i64 a = Value.int .i64 b := by rw [h]
set_option maxHeartbeats 2000000 in
theorem lead_none (s : ByteArray) (w : World) (hs : s.size ≤ 9223372036854775807) (h : s.size = 0) : Calls Try.prog 16 #[.string s] w (Leads (bys s) 0 false w) := by
  have z0 : decide (0 < (s.size : Int)) = false := decide_eq_false (by omega)
  obtain ⟨r, hr⟩ : ∃ r, run ((bys s).drop 0) = r := ⟨_, rfl⟩
  have HR := Lib.hid hr
  clear hr
  have hle : r.length + 0 ≤ s.size ∨ r.length = 0 := by
    have h1 := run_le ((bys s).drop 0)
    rw [HR.out] at h1
    simp at h1
    omega
  go_enter Try.func16, Try.ntmps16
  go_wp2
  go_loop [4, 6] (fun a n => ∃ k : Nat, k ≤ r.length ∧ a = .int .i64 ((k : Nat) : Int) ∧ n = .int .i64 (wrap64 (accT (r.take k)))) (fun a _ => s.size - (intOf a).toNat)
  case atStart => exact ⟨0, Nat.zero_le _, rfl, by simp [accT, wrap64]⟩
  case round =>
    obtain ⟨k, hk, rfl, rfl⟩ := hrel
    have hlt : ¬ k < r.length := by omega
    · have hkr : k = r.length := by omega
      have hrt : r.take k = r := List.take_of_length_le (by omega)
      have hout : ∀ (h : k < s.size), isD s[k] = false := by
        intro h
        have h1 := run_out ((bys s).drop 0) (by rw [HR.out]; simp; omega)
        obtain ⟨h2, h3⟩ := at_drop s 0 (run ((bys s).drop 0)).length (by rw [HR.out]; simp; omega)
        rw [h3] at h1
        have e4 : s[0 + (run ((bys s).drop 0)).length] = s[k] := by congr 1; rw [HR.out]; omega
        rw [← e4]; exact h1
      have FIN0 : Hid (k = 0 → Leads (bys s) 0 false w (.returned (.tuple #[.int .i64 0, .int .i64 0])) w) := by
        intro h
        refine ⟨rfl, ?_⟩
        rw [HR.out, if_pos (List.eq_nil_of_length_eq_zero (by omega))]
      have FIN1 : Hid (¬ k = 0 → ∀ v, v = .int .i64 (wrap64 (accT r)) → ∀ u, u = .int .i64 ((k + 0 : Nat) : Int) → Leads (bys s) 0 false w (.returned (.tuple #[v, u])) w) := by
        rintro h v rfl u rfl
        refine ⟨rfl, ?_⟩
        rw [HR.out, if_neg (fun e => h (by rw [hkr, e]; rfl))]
        simp only [Bool.false_eq_true, if_false]
        rw [Nat.add_comm 0, hkr]
      rw [hrt]
      have HO := Lib.hid hout
      clear hrt hkr hout
      rcases Nat.lt_or_ge (k) s.size with hks | hks
      · have hnd : ¬ (48 ≤ (s[k].toNat : Int) ∧ (s[k].toNat : Int) ≤ 57) := of_decide_eq_false (HO.out hks)
        by_cases d1 : 48 ≤ (s[k].toNat : Int)
        · have q1 : decide (48 ≤ (s[k].toNat : Int)) = true := by simpa using d1
          have q2 : decide ((s[k].toNat : Int) ≤ 57) = false := by simp; omega
          · clear hnd
            by_cases hk0 : k = 0
            · have t0 : ((k : Int) == 0) = true := by simp; omega
              have HK := Lib.hid hk0
              clear hk0
              go_wp2
              all_goals (go_ret2; exact FIN0.out HK.out)
            · have t0 : ((k : Int) == 0) = false := by simp; omega
              go_wp2
              all_goals (go_ret2; refine FIN1.out hk0 _ (by rfl) _ ?_; first | rfl | go_num)
        · have q1 : decide (48 ≤ (s[k].toNat : Int)) = false := by simp; omega
          · clear hnd
            by_cases hk0 : k = 0
            · have t0 : ((k : Int) == 0) = true := by simp; omega
              have HK := Lib.hid hk0
              clear hk0
              go_wp2
              all_goals (go_ret2; exact FIN0.out HK.out)
            · have t0 : ((k : Int) == 0) = false := by simp; omega
              go_wp2
              all_goals (go_ret2; refine FIN1.out hk0 _ (by rfl) _ ?_; first | rfl | go_num)
      · have hfal : True := trivial
        · have hfa2 : True := trivial
          · clear hfal hfa2
            by_cases hk0 : k = 0
            · have t0 : ((k : Int) == 0) = true := by simp; omega
              have HK := Lib.hid hk0
              clear hk0
              go_wp2
              all_goals (go_ret2; exact FIN0.out HK.out)
            · have t0 : ((k : Int) == 0) = false := by simp; omega
              go_wp2
              all_goals (go_ret2; refine FIN1.out hk0 _ (by rfl) _ ?_; first | rfl | go_num)
set_option maxHeartbeats 2000000 in
theorem lead_minus (s : ByteArray) (w : World) (hs : s.size ≤ 9223372036854775807) (h : (bys s).head? = some 45) : Calls Try.prog 16 #[.string s] w (Leads (bys s) 1 true w) := by
  have hz : 0 < s.size := by
    rcases hs : bys s with _ | ⟨c, l⟩
    · rw [hs] at h; simp at h
    · have : (bys s).length = s.size := by simp
      rw [hs] at this; simp at this; omega
  have he : s[0] = 45 := by
    have : (bys s).head? = some s[0] := by rw [List.head?_eq_getElem?, List.getElem?_eq_getElem (by simpa using hz)]; rfl
    rw [this] at h; simpa using h
  have z0 : decide (0 < (s.size : Int)) = true := by simp; omega
  have z1 : ((s[0].toNat : Int) == 45) = true := by rw [he]; rfl
  clear he h
  obtain ⟨r, hr⟩ : ∃ r, run ((bys s).drop 1) = r := ⟨_, rfl⟩
  have HR := Lib.hid hr
  clear hr
  have hle : r.length + 1 ≤ s.size ∨ r.length = 0 := by
    have h1 := run_le ((bys s).drop 1)
    rw [HR.out] at h1
    simp at h1
    omega
  go_enter Try.func16, Try.ntmps16
  go_wp2
  go_loop [4, 6] (fun a n => ∃ k : Nat, k ≤ r.length ∧ a = .int .i64 ((k + 1 : Nat) : Int) ∧ n = .int .i64 (wrap64 (accT (r.take k)))) (fun a _ => s.size - (intOf a).toNat)
  case atStart => exact ⟨0, Nat.zero_le _, rfl, by simp [accT, wrap64]⟩
  case round =>
    obtain ⟨k, hk, rfl, rfl⟩ := hrel
    by_cases hlt : k < r.length
    · have hks : k + 1 < s.size := by omega
      have hin := run_in ((bys s).drop 1) k (by rw [HR.out]; exact hlt)
      have hrk : r[k] = s[k + 1] ∧ isD s[k + 1] = true := by
        obtain ⟨h', e1, e2⟩ := hin
        obtain ⟨h'', e3⟩ := at_drop s 1 k h'
        have e4 : s[1 + k] = s[k + 1] := by congr 1; omega
        have e5 : isD s[k + 1] = true := by rw [← e4, ← e3]; exact e2
        refine ⟨?_, e5⟩
        have e6 : r[k] = ((bys s).drop 1)[k] := by rw [← e1]; congr 1; exact HR.out.symm
        exact (e6.trans e3).trans e4
      have hd := of_decide_eq_true hrk.2
      have hsx : accT (r.take (k + 1)) = accT (r.take k) * 10 + ((s[k + 1].toNat : Int) - 48) := by rw [take_snoc' _ k hlt, accT_snoc, hrk.1]
      have HS := Lib.hid hsx
      obtain ⟨d1, d2⟩ := hd
      have q1 : decide (48 ≤ (s[k + 1].toNat : Int)) = true := by simpa using d1
      have q2 : decide ((s[k + 1].toNat : Int) ≤ 57) = true := by simpa using d2
      clear hin hrk hsx
      go_wp2
      go_round
      case rel => exact ⟨k + 1, by omega, by go_num, by rw [HS.out]; exact i64_eq (lead_step _ _)⟩
      case measure => simp [intOf]; omega
    · have hkr : k = r.length := by omega
      have hrt : r.take k = r := List.take_of_length_le (by omega)
      have hout : ∀ (h : k + 1 < s.size), isD s[k + 1] = false := by
        intro h
        have h1 := run_out ((bys s).drop 1) (by rw [HR.out]; simp; omega)
        obtain ⟨h2, h3⟩ := at_drop s 1 (run ((bys s).drop 1)).length (by rw [HR.out]; simp; omega)
        rw [h3] at h1
        have e4 : s[1 + (run ((bys s).drop 1)).length] = s[k + 1] := by congr 1; rw [HR.out]; omega
        rw [← e4]; exact h1
      have FIN0 : Hid (k = 0 → Leads (bys s) 1 true w (.returned (.tuple #[.int .i64 0, .int .i64 0])) w) := by
        intro h
        refine ⟨rfl, ?_⟩
        rw [HR.out, if_pos (List.eq_nil_of_length_eq_zero (by omega))]
      have FIN1 : Hid (¬ k = 0 → ∀ v, v = .int .i64 (wrap64 (- accT r)) → ∀ u, u = .int .i64 ((k + 1 : Nat) : Int) → Leads (bys s) 1 true w (.returned (.tuple #[v, u])) w) := by
        rintro h v rfl u rfl
        refine ⟨rfl, ?_⟩
        rw [HR.out, if_neg (fun e => h (by rw [hkr, e]; rfl))]
        simp only [if_true]
        rw [Nat.add_comm 1, hkr]
      rw [hrt]
      have HO := Lib.hid hout
      clear hrt hkr hout
      rcases Nat.lt_or_ge (k + 1) s.size with hks | hks
      · have hnd : ¬ (48 ≤ (s[k + 1].toNat : Int) ∧ (s[k + 1].toNat : Int) ≤ 57) := of_decide_eq_false (HO.out hks)
        by_cases d1 : 48 ≤ (s[k + 1].toNat : Int)
        · have q1 : decide (48 ≤ (s[k + 1].toNat : Int)) = true := by simpa using d1
          have q2 : decide ((s[k + 1].toNat : Int) ≤ 57) = false := by simp; omega
          · clear hnd
            by_cases hk0 : k = 0
            · have t0 : ((k : Int) + 1 == 1) = true := by simp; omega
              have HK := Lib.hid hk0
              clear hk0
              go_wp2
              all_goals (go_ret2; exact FIN0.out HK.out)
            · have t0 : ((k : Int) + 1 == 1) = false := by simp; omega
              go_wp2
              all_goals (go_ret2; refine FIN1.out hk0 _ (by exact i64_eq (wrap64_neg _)) _ ?_; first | rfl | go_num)
        · have q1 : decide (48 ≤ (s[k + 1].toNat : Int)) = false := by simp; omega
          · clear hnd
            by_cases hk0 : k = 0
            · have t0 : ((k : Int) + 1 == 1) = true := by simp; omega
              have HK := Lib.hid hk0
              clear hk0
              go_wp2
              all_goals (go_ret2; exact FIN0.out HK.out)
            · have t0 : ((k : Int) + 1 == 1) = false := by simp; omega
              go_wp2
              all_goals (go_ret2; refine FIN1.out hk0 _ (by exact i64_eq (wrap64_neg _)) _ ?_; first | rfl | go_num)
      · have hfal : True := trivial
        · have hfa2 : True := trivial
          · clear hfal hfa2
            by_cases hk0 : k = 0
            · have t0 : ((k : Int) + 1 == 1) = true := by simp; omega
              have HK := Lib.hid hk0
              clear hk0
              go_wp2
              all_goals (go_ret2; exact FIN0.out HK.out)
            · have t0 : ((k : Int) + 1 == 1) = false := by simp; omega
              go_wp2
              all_goals (go_ret2; refine FIN1.out hk0 _ (by exact i64_eq (wrap64_neg _)) _ ?_; first | rfl | go_num)
set_option maxHeartbeats 2000000 in
theorem lead_plus (s : ByteArray) (w : World) (hs : s.size ≤ 9223372036854775807) (h : (bys s).head? = some 43) : Calls Try.prog 16 #[.string s] w (Leads (bys s) 1 false w) := by
  have hz : 0 < s.size := by
    rcases hs : bys s with _ | ⟨c, l⟩
    · rw [hs] at h; simp at h
    · have : (bys s).length = s.size := by simp
      rw [hs] at this; simp at this; omega
  have he : s[0] = 43 := by
    have : (bys s).head? = some s[0] := by rw [List.head?_eq_getElem?, List.getElem?_eq_getElem (by simpa using hz)]; rfl
    rw [this] at h; simpa using h
  have z0 : decide (0 < (s.size : Int)) = true := by simp; omega
  have z1 : ((s[0].toNat : Int) == 45) = false := by rw [he]; rfl
  have z2 : ((s[0].toNat : Int) == 43) = true := by rw [he]; rfl
  clear he h
  obtain ⟨r, hr⟩ : ∃ r, run ((bys s).drop 1) = r := ⟨_, rfl⟩
  have HR := Lib.hid hr
  clear hr
  have hle : r.length + 1 ≤ s.size ∨ r.length = 0 := by
    have h1 := run_le ((bys s).drop 1)
    rw [HR.out] at h1
    simp at h1
    omega
  go_enter Try.func16, Try.ntmps16
  go_wp2
  go_loop [4, 6] (fun a n => ∃ k : Nat, k ≤ r.length ∧ a = .int .i64 ((k + 1 : Nat) : Int) ∧ n = .int .i64 (wrap64 (accT (r.take k)))) (fun a _ => s.size - (intOf a).toNat)
  case atStart => exact ⟨0, Nat.zero_le _, rfl, by simp [accT, wrap64]⟩
  case round =>
    obtain ⟨k, hk, rfl, rfl⟩ := hrel
    by_cases hlt : k < r.length
    · have hks : k + 1 < s.size := by omega
      have hin := run_in ((bys s).drop 1) k (by rw [HR.out]; exact hlt)
      have hrk : r[k] = s[k + 1] ∧ isD s[k + 1] = true := by
        obtain ⟨h', e1, e2⟩ := hin
        obtain ⟨h'', e3⟩ := at_drop s 1 k h'
        have e4 : s[1 + k] = s[k + 1] := by congr 1; omega
        have e5 : isD s[k + 1] = true := by rw [← e4, ← e3]; exact e2
        refine ⟨?_, e5⟩
        have e6 : r[k] = ((bys s).drop 1)[k] := by rw [← e1]; congr 1; exact HR.out.symm
        exact (e6.trans e3).trans e4
      have hd := of_decide_eq_true hrk.2
      have hsx : accT (r.take (k + 1)) = accT (r.take k) * 10 + ((s[k + 1].toNat : Int) - 48) := by rw [take_snoc' _ k hlt, accT_snoc, hrk.1]
      have HS := Lib.hid hsx
      obtain ⟨d1, d2⟩ := hd
      have q1 : decide (48 ≤ (s[k + 1].toNat : Int)) = true := by simpa using d1
      have q2 : decide ((s[k + 1].toNat : Int) ≤ 57) = true := by simpa using d2
      clear hin hrk hsx
      go_wp2
      go_round
      case rel => exact ⟨k + 1, by omega, by go_num, by rw [HS.out]; exact i64_eq (lead_step _ _)⟩
      case measure => simp [intOf]; omega
    · have hkr : k = r.length := by omega
      have hrt : r.take k = r := List.take_of_length_le (by omega)
      have hout : ∀ (h : k + 1 < s.size), isD s[k + 1] = false := by
        intro h
        have h1 := run_out ((bys s).drop 1) (by rw [HR.out]; simp; omega)
        obtain ⟨h2, h3⟩ := at_drop s 1 (run ((bys s).drop 1)).length (by rw [HR.out]; simp; omega)
        rw [h3] at h1
        have e4 : s[1 + (run ((bys s).drop 1)).length] = s[k + 1] := by congr 1; rw [HR.out]; omega
        rw [← e4]; exact h1
      have FIN0 : Hid (k = 0 → Leads (bys s) 1 false w (.returned (.tuple #[.int .i64 0, .int .i64 0])) w) := by
        intro h
        refine ⟨rfl, ?_⟩
        rw [HR.out, if_pos (List.eq_nil_of_length_eq_zero (by omega))]
      have FIN1 : Hid (¬ k = 0 → ∀ v, v = .int .i64 (wrap64 (accT r)) → ∀ u, u = .int .i64 ((k + 1 : Nat) : Int) → Leads (bys s) 1 false w (.returned (.tuple #[v, u])) w) := by
        rintro h v rfl u rfl
        refine ⟨rfl, ?_⟩
        rw [HR.out, if_neg (fun e => h (by rw [hkr, e]; rfl))]
        simp only [Bool.false_eq_true, if_false]
        rw [Nat.add_comm 1, hkr]
      rw [hrt]
      have HO := Lib.hid hout
      clear hrt hkr hout
      rcases Nat.lt_or_ge (k + 1) s.size with hks | hks
      · have hnd : ¬ (48 ≤ (s[k + 1].toNat : Int) ∧ (s[k + 1].toNat : Int) ≤ 57) := of_decide_eq_false (HO.out hks)
        by_cases d1 : 48 ≤ (s[k + 1].toNat : Int)
        · have q1 : decide (48 ≤ (s[k + 1].toNat : Int)) = true := by simpa using d1
          have q2 : decide ((s[k + 1].toNat : Int) ≤ 57) = false := by simp; omega
          · clear hnd
            by_cases hk0 : k = 0
            · have t0 : ((k : Int) + 1 == 1) = true := by simp; omega
              have HK := Lib.hid hk0
              clear hk0
              go_wp2
              all_goals (go_ret2; exact FIN0.out HK.out)
            · have t0 : ((k : Int) + 1 == 1) = false := by simp; omega
              go_wp2
              all_goals (go_ret2; refine FIN1.out hk0 _ (by rfl) _ ?_; first | rfl | go_num)
        · have q1 : decide (48 ≤ (s[k + 1].toNat : Int)) = false := by simp; omega
          · clear hnd
            by_cases hk0 : k = 0
            · have t0 : ((k : Int) + 1 == 1) = true := by simp; omega
              have HK := Lib.hid hk0
              clear hk0
              go_wp2
              all_goals (go_ret2; exact FIN0.out HK.out)
            · have t0 : ((k : Int) + 1 == 1) = false := by simp; omega
              go_wp2
              all_goals (go_ret2; refine FIN1.out hk0 _ (by rfl) _ ?_; first | rfl | go_num)
      · have hfal : True := trivial
        · have hfa2 : True := trivial
          · clear hfal hfa2
            by_cases hk0 : k = 0
            · have t0 : ((k : Int) + 1 == 1) = true := by simp; omega
              have HK := Lib.hid hk0
              clear hk0
              go_wp2
              all_goals (go_ret2; exact FIN0.out HK.out)
            · have t0 : ((k : Int) + 1 == 1) = false := by simp; omega
              go_wp2
              all_goals (go_ret2; refine FIN1.out hk0 _ (by rfl) _ ?_; first | rfl | go_num)
set_option maxHeartbeats 2000000 in
theorem lead_plain (s : ByteArray) (w : World) (hs : s.size ≤ 9223372036854775807) (hz : 0 < s.size) (h : (bys s).head? ≠ some 45) (h2 : (bys s).head? ≠ some 43) : Calls Try.prog 16 #[.string s] w (Leads (bys s) 0 false w) := by
  have hh : (bys s).head? = some s[0] := by rw [List.head?_eq_getElem?, List.getElem?_eq_getElem (by simpa using hz)]; rfl
  have z0 : decide (0 < (s.size : Int)) = true := by simp; omega
  have z1 : ((s[0].toNat : Int) == 45) = false := by
    rw [hh] at h
    simp only [beq_eq_false_iff_ne]
    intro e
    exact h (by congr 1; apply UInt8.toNat_inj.1; show s[0].toNat = 45; omega)
  have z2 : ((s[0].toNat : Int) == 43) = false := by
    rw [hh] at h2
    simp only [beq_eq_false_iff_ne]
    intro e
    exact h2 (by congr 1; apply UInt8.toNat_inj.1; show s[0].toNat = 43; omega)
  clear hh h h2
  obtain ⟨r, hr⟩ : ∃ r, run ((bys s).drop 0) = r := ⟨_, rfl⟩
  have HR := Lib.hid hr
  clear hr
  have hle : r.length + 0 ≤ s.size ∨ r.length = 0 := by
    have h1 := run_le ((bys s).drop 0)
    rw [HR.out] at h1
    simp at h1
    omega
  go_enter Try.func16, Try.ntmps16
  go_wp2
  go_loop [4, 6] (fun a n => ∃ k : Nat, k ≤ r.length ∧ a = .int .i64 ((k : Nat) : Int) ∧ n = .int .i64 (wrap64 (accT (r.take k)))) (fun a _ => s.size - (intOf a).toNat)
  case atStart => exact ⟨0, Nat.zero_le _, rfl, by simp [accT, wrap64]⟩
  case round =>
    obtain ⟨k, hk, rfl, rfl⟩ := hrel
    by_cases hlt : k < r.length
    · have hks : k < s.size := by omega
      have hin := run_in ((bys s).drop 0) k (by rw [HR.out]; exact hlt)
      have hrk : r[k] = s[k] ∧ isD s[k] = true := by
        obtain ⟨h', e1, e2⟩ := hin
        obtain ⟨h'', e3⟩ := at_drop s 0 k h'
        have e4 : s[0 + k] = s[k] := by congr 1; omega
        have e5 : isD s[k] = true := by rw [← e4, ← e3]; exact e2
        refine ⟨?_, e5⟩
        have e6 : r[k] = ((bys s).drop 0)[k] := by rw [← e1]; congr 1; exact HR.out.symm
        exact (e6.trans e3).trans e4
      have hd := of_decide_eq_true hrk.2
      have hsx : accT (r.take (k + 1)) = accT (r.take k) * 10 + ((s[k].toNat : Int) - 48) := by rw [take_snoc' _ k hlt, accT_snoc, hrk.1]
      have HS := Lib.hid hsx
      obtain ⟨d1, d2⟩ := hd
      have q1 : decide (48 ≤ (s[k].toNat : Int)) = true := by simpa using d1
      have q2 : decide ((s[k].toNat : Int) ≤ 57) = true := by simpa using d2
      clear hin hrk hsx
      go_wp2
      go_round
      case rel => exact ⟨k + 1, by omega, by go_num, by rw [HS.out]; exact i64_eq (lead_step _ _)⟩
      case measure => simp [intOf]; omega
    · have hkr : k = r.length := by omega
      have hrt : r.take k = r := List.take_of_length_le (by omega)
      have hout : ∀ (h : k < s.size), isD s[k] = false := by
        intro h
        have h1 := run_out ((bys s).drop 0) (by rw [HR.out]; simp; omega)
        obtain ⟨h2, h3⟩ := at_drop s 0 (run ((bys s).drop 0)).length (by rw [HR.out]; simp; omega)
        rw [h3] at h1
        have e4 : s[0 + (run ((bys s).drop 0)).length] = s[k] := by congr 1; rw [HR.out]; omega
        rw [← e4]; exact h1
      have FIN0 : Hid (k = 0 → Leads (bys s) 0 false w (.returned (.tuple #[.int .i64 0, .int .i64 0])) w) := by
        intro h
        refine ⟨rfl, ?_⟩
        rw [HR.out, if_pos (List.eq_nil_of_length_eq_zero (by omega))]
      have FIN1 : Hid (¬ k = 0 → ∀ v, v = .int .i64 (wrap64 (accT r)) → ∀ u, u = .int .i64 ((k + 0 : Nat) : Int) → Leads (bys s) 0 false w (.returned (.tuple #[v, u])) w) := by
        rintro h v rfl u rfl
        refine ⟨rfl, ?_⟩
        rw [HR.out, if_neg (fun e => h (by rw [hkr, e]; rfl))]
        simp only [Bool.false_eq_true, if_false]
        rw [Nat.add_comm 0, hkr]
      rw [hrt]
      have HO := Lib.hid hout
      clear hrt hkr hout
      rcases Nat.lt_or_ge (k) s.size with hks | hks
      · have hnd : ¬ (48 ≤ (s[k].toNat : Int) ∧ (s[k].toNat : Int) ≤ 57) := of_decide_eq_false (HO.out hks)
        by_cases d1 : 48 ≤ (s[k].toNat : Int)
        · have q1 : decide (48 ≤ (s[k].toNat : Int)) = true := by simpa using d1
          have q2 : decide ((s[k].toNat : Int) ≤ 57) = false := by simp; omega
          · clear hnd
            by_cases hk0 : k = 0
            · have t0 : ((k : Int) == 0) = true := by simp; omega
              have HK := Lib.hid hk0
              clear hk0
              go_wp2
              all_goals (go_ret2; exact FIN0.out HK.out)
            · have t0 : ((k : Int) == 0) = false := by simp; omega
              go_wp2
              all_goals (go_ret2; refine FIN1.out hk0 _ (by rfl) _ ?_; first | rfl | go_num)
        · have q1 : decide (48 ≤ (s[k].toNat : Int)) = false := by simp; omega
          · clear hnd
            by_cases hk0 : k = 0
            · have t0 : ((k : Int) == 0) = true := by simp; omega
              have HK := Lib.hid hk0
              clear hk0
              go_wp2
              all_goals (go_ret2; exact FIN0.out HK.out)
            · have t0 : ((k : Int) == 0) = false := by simp; omega
              go_wp2
              all_goals (go_ret2; refine FIN1.out hk0 _ (by rfl) _ ?_; first | rfl | go_num)
      · have hfal : True := trivial
        · have hfa2 : True := trivial
          · clear hfal hfa2
            by_cases hk0 : k = 0
            · have t0 : ((k : Int) == 0) = true := by simp; omega
              have HK := Lib.hid hk0
              clear hk0
              go_wp2
              all_goals (go_ret2; exact FIN0.out HK.out)
            · have t0 : ((k : Int) == 0) = false := by simp; omega
              go_wp2
              all_goals (go_ret2; refine FIN1.out hk0 _ (by rfl) _ ?_; first | rfl | go_num)
theorem lead_any (s : ByteArray) (w : World) (hs : s.size ≤ 9223372036854775807) : Calls Try.prog 16 #[.string s] w fun e w' => e = .returned (.tuple #[.int .i64 (leadO (bys s)).1, .int .i64 (leadO (bys s)).2]) ∧ w = w' := by
  have fin : ∀ (f : Nat) (mn : Bool) (e : Ending) (w' : World), sgn (bys s) = f → decide ((bys s).head? = some 45) = mn → Leads (bys s) f mn w e w' → e = .returned (.tuple #[.int .i64 (leadO (bys s)).1, .int .i64 (leadO (bys s)).2]) ∧ w = w' := by
    rintro f mn e w' rfl rfl ⟨rfl, rfl⟩
    refine ⟨?_, rfl⟩
    congr 1
    unfold leadO
    simp only [decide_eq_true_eq]
    split <;> rfl
  by_cases h : (bys s).head? = some 45
  · exact (lead_minus s w hs h).mono (fun e w' => fin 1 true e w' (by unfold sgn; rw [if_pos (.inl h)]) (decide_eq_true h))
  · by_cases h2 : (bys s).head? = some 43
    · exact (lead_plus s w hs h2).mono (fun e w' => fin 1 false e w' (by unfold sgn; rw [if_pos (.inr h2)]) (decide_eq_false h))
    · have e0 : sgn (bys s) = 0 := by unfold sgn; rw [if_neg (fun e => e.elim h h2)]
      rcases Nat.eq_zero_or_pos s.size with hz | hz
      · exact (lead_none s w hs hz).mono (fun e w' => fin 0 false e w' e0 (decide_eq_false h))
      · exact (lead_plain s w hs hz h h2).mono (fun e w' => fin 0 false e w' e0 (decide_eq_false h))
end Go.Proofs.Ytcjmoobdoinbkaa
