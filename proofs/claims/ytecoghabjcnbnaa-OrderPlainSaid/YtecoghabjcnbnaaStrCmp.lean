/- The contract of str.Compare: byte by byte, and it turns its sign. Condition: texts of a size that Go knows. -/
import Derived.Test.YtecoghabjcnbnaaCmp
import Derived.Deep.LoopGhost
import Derived.BigQuiet
import Derived.Test.YtecoghabjcnbnaaSorts
namespace Go.Proofs.Ytecoghabjcnbnaa
open Go.RowKit
set_option linter.unusedVariables false
def cmpB : List UInt8 → List UInt8 → Int
  | [], [] => 0
  | [], _ :: _ => -1
  | _ :: _, [] => 1
  | a :: p, b :: q => if a = b then cmpB p q else if a.toNat < b.toNat then -1 else 1
theorem cmpB_turn : ∀ (p q : List UInt8), cmpB q p = - cmpB p q
  | [], [] => rfl
  | [], _ :: _ => rfl
  | _ :: _, [] => rfl
  | a :: p, b :: q => by
    unfold cmpB
    by_cases h : a = b
    · rw [if_pos h, if_pos h.symm]; exact cmpB_turn p q
    · have h2 : a.toNat ≠ b.toNat := fun e => h (UInt8.toNat_inj.1 e)
      rw [if_neg h, if_neg (fun e => h e.symm)]
      by_cases h3 : a.toNat < b.toNat
      · rw [if_pos h3, if_neg (by omega)]; rfl
      · rw [if_neg h3, if_pos (by omega)]
theorem idx_str (s : ByteArray) (k : Nat) (a : UInt8) (h : s.data.toList[k]? = some a) (W : World) : (Instr.index 9 (.string s) (.int .i64 (k : Int))).run Try.prog W = .ok (.int .u8 (a.toNat : Int)) W := by
  have hl := (List.getElem?_eq_some_iff.1 h).1
  have hl2 : k < s.size := by simpa using hl
  rw [run_index_string W 9 s .i64 _ Try.underlying9, dif_pos ⟨by omega, by omega⟩]
  congr 2
  obtain ⟨_, rfl⟩ := List.getElem?_eq_some_iff.1 h
  rfl
set_option maxRecDepth 100000 in
theorem scompare_any (s t : ByteArray) (hs : s.size ≤ maxLen) (ht : t.size ≤ maxLen) (w : World) : Calls Try.prog 24 #[.string s, .string t] w fun e w' => e = .returned (.int .i64 (cmpB s.data.toList t.data.toList)) ∧ Below w.heap.size w w' := by
  unfold maxLen at hs ht
  obtain ⟨n, hn⟩ : ∃ n, s.size = n := ⟨_, rfl⟩
  obtain ⟨m, hm⟩ : ∃ m, t.size = m := ⟨_, rfl⟩
  have ln : s.data.toList.length = n := hn
  have lm : t.data.toList.length = m := hm
  rw [hn] at hs
  rw [hm] at ht
  obtain ⟨r, hr⟩ : ∃ r, cmpB s.data.toList t.data.toList = r := ⟨_, rfl⟩
  have HR := Lib.hid hr
  have HN := Lib.hid (And.intro ln lm)
  rw [hr]
  clear hr ln lm
  go_enter Try.func24, Try.ntmps24
  by_cases hmn : m < n
  · have qm : decide (m < n) = true := decide_eq_true hmn
    go_wp2
    go_loopw [11] (fun t2 wr => ∃ (k nn : Nat), k ≤ m ∧ t2 = .int .i64 k ∧ cmpB (s.data.toList.drop k) (t.data.toList.drop k) = r ∧ wr = w.drewN nn) (fun t2 _ => m - (intOf t2).toNat)
    case atStart => exact ⟨0, 0, Nat.zero_le _, rfl, HR.out, rfl⟩
    case round =>
      obtain ⟨k, nn, hk, rfl, hr, rfl⟩ := hrel
      have HK := Lib.hid hr
      clear hr
      by_cases hlt : k < m
      · obtain ⟨a, ha⟩ : ∃ a, s.data.toList[k]? = some a := ⟨_, List.getElem?_eq_getElem (by have := HN.out.1; omega)⟩
        obtain ⟨b, hb⟩ : ∃ b, t.data.toList[k]? = some b := ⟨_, List.getElem?_eq_getElem (by have := HN.out.2; omega)⟩
        have hs1 := idx_str s k a ha
        have ht1 := idx_str t k b hb
        have hda := List.drop_eq_getElem?_toList_append (l := s.data.toList) (i := k)
        have hdb := List.drop_eq_getElem?_toList_append (l := t.data.toList) (i := k)
        rw [ha] at hda
        rw [hb] at hdb
        have z0 : decide ((k : Int) < (m : Int)) = true := decide_eq_true (by omega)
        by_cases hab : a = b
        · have q1 : ((a.toNat : Int) != (b.toNat : Int)) = false := by subst hab; simp
          have HD : Hid (cmpB (s.data.toList.drop (k + 1)) (t.data.toList.drop (k + 1)) = r) := by
            have h := HK.out
            rw [hda, hdb] at h
            subst hab
            exact (show cmpB _ _ = r by simpa [cmpB] using h)
          clear hda hdb ha hb
          subst hab
          go_wp2
          go_quiet (fail)
          go_wp2
          go_roundw
          case rel => exact ⟨k + 1, _, by omega, by go_num, HD.out, rfl⟩
          case measure => simp [intOf]; omega
        · have hne : a.toNat ≠ b.toNat := fun e => hab (UInt8.toNat_inj.1 e)
          have q1 : ((a.toNat : Int) != (b.toNat : Int)) = true := by simp; omega
          have q1b : decide ((a.toNat : Int) = (b.toNat : Int)) = false := decide_eq_false (by omega)
          have q1c : decide (a.toNat = b.toNat) = false := decide_eq_false hne
          by_cases hl : a.toNat < b.toNat
          · have q2 : decide ((a.toNat : Int) < (b.toNat : Int)) = true := decide_eq_true (by omega)
            have q3 : decide (a.toNat < b.toNat) = true := decide_eq_true hl
            have hr1 : r = -1 := by
              have h := HK.out
              rw [hda, hdb] at h
              simp only [Option.toList, List.cons_append, List.nil_append, cmpB] at h
              rw [if_neg hab, if_pos hl] at h
              exact h.symm
            clear hda hdb ha hb hab hne
            subst hr1
            go_wp2
            go_quiet (fail)
            go_wp2
            go_quiet (fail)
            go_wp2
            go_ret
            exact ⟨rfl, below_drewN (below_drewN (below_drewN (Below.refl _ _) _) _) _⟩
          · have q2 : decide ((a.toNat : Int) < (b.toNat : Int)) = false := decide_eq_false (by omega)
            have q3 : decide (a.toNat < b.toNat) = false := decide_eq_false hl
            have hr1 : r = 1 := by
              have h := HK.out
              rw [hda, hdb] at h
              simp only [Option.toList, List.cons_append, List.nil_append, cmpB] at h
              rw [if_neg hab, if_neg hl] at h
              exact h.symm
            clear hda hdb ha hb hab hne
            subst hr1
            go_wp2
            go_quiet (fail)
            go_wp2
            go_quiet (fail)
            go_wp2
            go_ret
            exact ⟨rfl, below_drewN (below_drewN (below_drewN (Below.refl _ _) _) _) _⟩
      · have z0 : decide ((k : Int) < (m : Int)) = false := decide_eq_false (by omega)
        obtain rfl : k = m := by omega
        have hr1 : r = 1 := by
          have h := HK.out
          rw [List.drop_of_length_le (l := t.data.toList) (by have := HN.out.2; omega)] at h
          obtain ⟨x, l, e⟩ : ∃ x l, s.data.toList.drop k = x :: l := by
            cases e : s.data.toList.drop k with
            | nil => have := congrArg List.length e; rw [List.length_drop] at this; have := HN.out.1; simp at *; omega
            | cons x l => exact ⟨x, l, rfl⟩
          rw [e] at h
          exact h.symm
        subst hr1
        have q5 : decide ((n : Int) < (k : Int)) = false := decide_eq_false (by omega)
        have q6 : decide ((k : Int) < (n : Int)) = true := decide_eq_true (by omega)
        go_wp2
        go_ret
        exact ⟨rfl, below_drewN (Below.refl _ _) _⟩
  · have qm : decide (m < n) = false := decide_eq_false hmn
    go_wp2
    go_loopw [11] (fun t2 wr => ∃ (k nn : Nat), k ≤ n ∧ t2 = .int .i64 k ∧ cmpB (s.data.toList.drop k) (t.data.toList.drop k) = r ∧ wr = w.drewN nn) (fun t2 _ => n - (intOf t2).toNat)
    case atStart => exact ⟨0, 0, Nat.zero_le _, rfl, HR.out, rfl⟩
    case round =>
      obtain ⟨k, nn, hk, rfl, hr, rfl⟩ := hrel
      have HK := Lib.hid hr
      clear hr
      by_cases hlt : k < n
      · obtain ⟨a, ha⟩ : ∃ a, s.data.toList[k]? = some a := ⟨_, List.getElem?_eq_getElem (by have := HN.out.1; omega)⟩
        obtain ⟨b, hb⟩ : ∃ b, t.data.toList[k]? = some b := ⟨_, List.getElem?_eq_getElem (by have := HN.out.2; omega)⟩
        have hs1 := idx_str s k a ha
        have ht1 := idx_str t k b hb
        have hda := List.drop_eq_getElem?_toList_append (l := s.data.toList) (i := k)
        have hdb := List.drop_eq_getElem?_toList_append (l := t.data.toList) (i := k)
        rw [ha] at hda
        rw [hb] at hdb
        have z0 : decide ((k : Int) < (n : Int)) = true := decide_eq_true (by omega)
        by_cases hab : a = b
        · have q1 : ((a.toNat : Int) != (b.toNat : Int)) = false := by subst hab; simp
          have HD : Hid (cmpB (s.data.toList.drop (k + 1)) (t.data.toList.drop (k + 1)) = r) := by
            have h := HK.out
            rw [hda, hdb] at h
            subst hab
            exact (show cmpB _ _ = r by simpa [cmpB] using h)
          clear hda hdb ha hb
          subst hab
          go_wp2
          go_quiet (fail)
          go_wp2
          go_roundw
          case rel => exact ⟨k + 1, _, by omega, by go_num, HD.out, rfl⟩
          case measure => simp [intOf]; omega
        · have hne : a.toNat ≠ b.toNat := fun e => hab (UInt8.toNat_inj.1 e)
          have q1 : ((a.toNat : Int) != (b.toNat : Int)) = true := by simp; omega
          have q1b : decide ((a.toNat : Int) = (b.toNat : Int)) = false := decide_eq_false (by omega)
          have q1c : decide (a.toNat = b.toNat) = false := decide_eq_false hne
          by_cases hl : a.toNat < b.toNat
          · have q2 : decide ((a.toNat : Int) < (b.toNat : Int)) = true := decide_eq_true (by omega)
            have q3 : decide (a.toNat < b.toNat) = true := decide_eq_true hl
            have hr1 : r = -1 := by
              have h := HK.out
              rw [hda, hdb] at h
              simp only [Option.toList, List.cons_append, List.nil_append, cmpB] at h
              rw [if_neg hab, if_pos hl] at h
              exact h.symm
            clear hda hdb ha hb hab hne
            subst hr1
            go_wp2
            go_quiet (fail)
            go_wp2
            go_quiet (fail)
            go_wp2
            go_ret
            exact ⟨rfl, below_drewN (below_drewN (below_drewN (Below.refl _ _) _) _) _⟩
          · have q2 : decide ((a.toNat : Int) < (b.toNat : Int)) = false := decide_eq_false (by omega)
            have q3 : decide (a.toNat < b.toNat) = false := decide_eq_false hl
            have hr1 : r = 1 := by
              have h := HK.out
              rw [hda, hdb] at h
              simp only [Option.toList, List.cons_append, List.nil_append, cmpB] at h
              rw [if_neg hab, if_neg hl] at h
              exact h.symm
            clear hda hdb ha hb hab hne
            subst hr1
            go_wp2
            go_quiet (fail)
            go_wp2
            go_quiet (fail)
            go_wp2
            go_ret
            exact ⟨rfl, below_drewN (below_drewN (below_drewN (Below.refl _ _) _) _) _⟩
      · have z0 : decide ((k : Int) < (n : Int)) = false := decide_eq_false (by omega)
        obtain rfl : k = n := by omega
        by_cases hkm : k < m
        · have hr1 : r = -1 := by
            have h := HK.out
            rw [List.drop_of_length_le (l := s.data.toList) (by have := HN.out.1; omega)] at h
            obtain ⟨x, l, e⟩ : ∃ x l, t.data.toList.drop k = x :: l := by
              cases e : t.data.toList.drop k with
              | nil => have := congrArg List.length e; rw [List.length_drop] at this; have := HN.out.2; simp at *; omega
              | cons x l => exact ⟨x, l, rfl⟩
            rw [e] at h
            exact h.symm
          subst hr1
          have q6 : decide ((k : Int) < (m : Int)) = true := decide_eq_true (by omega)
          go_wp2
          go_ret
          exact ⟨rfl, below_drewN (Below.refl _ _) _⟩
        · have hr1 : r = 0 := by
            have h := HK.out
            rw [List.drop_of_length_le (l := s.data.toList) (by have := HN.out.1; omega), List.drop_of_length_le (l := t.data.toList) (by have := HN.out.2; omega)] at h
            exact h.symm
          subst hr1
          have q5 : decide ((k : Int) < (m : Int)) = false := decide_eq_false (by omega)
          have q6 : decide ((m : Int) < (k : Int)) = false := decide_eq_false (by omega)
          go_wp2
          go_ret
          exact ⟨rfl, below_drewN (Below.refl _ _) _⟩
end Go.Proofs.Ytecoghabjcnbnaa
