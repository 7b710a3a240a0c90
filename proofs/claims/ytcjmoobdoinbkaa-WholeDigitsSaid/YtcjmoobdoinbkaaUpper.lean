/- The contracts of str.each and str.Upper. Condition: no text of a million bytes. -/
import Derived.Test.YtcjmoobdoinbkaaSplit
import Derived.Test.YtcjmoobdoinbkaaIn
import Derived.Laws.IdiomStrings
namespace Go.Proofs.Ytcjmoobdoinbkaa
open Go.RowKit
set_option linter.unusedVariables false
def up (c : UInt8) : UInt8 := if 97 ≤ c.toNat ∧ c.toNat ≤ 122 then c - 32 else c
def upL (l : List UInt8) : List UInt8 := l.map up
theorem up_nat : ∀ n : Fin 256, (up n.val.toUInt8).toNat = if 97 ≤ n.val ∧ n.val ≤ 122 then n.val - 32 else n.val := by decide +kernel
theorem up_toNat (c : UInt8) : (up c).toNat = if 97 ≤ c.toNat ∧ c.toNat ≤ 122 then c.toNat - 32 else c.toNat := by
  have := up_nat ⟨c.toNat, c.toNat_lt⟩
  simp only at this
  rwa [show c.toNat.toUInt8 = c from by simp] at this
/-- A block's cells, of which the first k are turned. -/
def upTo (l : List UInt8) (k : Nat) : List UInt8 := upL (l.take k) ++ l.drop k
theorem conv_any (s : ByteArray) (w : World) : ∃ cap w1, s.size ≤ cap ∧ (convert 9 67 (.string s)).run Try.prog w = .ok (.slice (some ⟨w.heap.size, 0, none⟩) s.size cap) w1 ∧ Below w.heap.size w w1 ∧ w.heap.size < w1.heap.size ∧
    (∀ j (h : j < s.size), w1.cell? ⟨w.heap.size, j, none⟩ = some (.int .u8 (s[j].toNat : Int)) ∧ w1.frozen? ⟨w.heap.size, j, none⟩ = false) := by
  refine ⟨_, _, ?_, run_bytes_of_string w 9 67 5 s Try.underlying9 Try.underlying67 Try.underlying5, ?_, ?_, fun j h => ⟨?_, ?_⟩⟩
  · exact grownCap_ge _ _ _ _
  · exact (((Below.refl w.heap.size w).drew).alloc (Nat.le_refl _) _)
  · simp
  · exact (World.cell?_alloc_mark w.drew _ 5 _ j).trans (bytesRow_at s _ j (by simpa using h))
  · refine (World.frozen?_alloc_mark w.drew _ 5 _ _ j).trans ?_
    have : s.size ≤ (bytesRow s (grownCap w s.size 0 5)).size := by simp [bytesRow]
    simp; omega
theorem upTo_at (s : ByteArray) (k j : Nat) (hk : k ≤ s.size) (hj : j < s.size) : (upTo (bys s) k)[j]? = some (if j < k then up s[j] else s[j]) := by
  have hl : (bys s).length = s.size := by simp
  unfold upTo upL
  by_cases h : j < k
  · rw [if_pos h, List.getElem?_append_left (by simp; omega), List.getElem?_map, List.getElem?_take_of_lt h]
    rw [List.getElem?_eq_getElem (by omega)]; rfl
  · rw [if_neg h, List.getElem?_append_right (by simp; omega), List.getElem?_drop]
    rw [List.length_map, List.length_take, hl, Nat.min_eq_left hk, show k + (j - k) = j from by omega, List.getElem?_eq_getElem (by omega)]; rfl
theorem upTo_all (l : List UInt8) (k : Nat) (h : l.length ≤ k) : upTo l k = upL l := by
  unfold upTo; rw [List.take_of_length_le h, List.drop_eq_nil_of_le h]; simp
set_option maxRecDepth 100000 in
theorem each_any (s : ByteArray) (w : World) (hs : s.size ≤ 1000000) : Calls Try.prog 60 #[.string s, .int .u8 97, .int .u8 122, .int .i64 (-32)] w fun e w' => e = .returned (strV (upL (bys s))) ∧ Below w.heap.size w w' := by
  obtain ⟨cap, w1, hcap, hconv, hb, hlt1, hcs⟩ := conv_any s w
  have HCS := Lib.hid hcs
  have HB := Lib.hid hb
  clear hcs hb
  go_enter Try.func60, Try.ntmps60
  go_wp2
  clear hconv
  go_loopw [16] (fun v16 wr => ∃ (k : Nat), k ≤ s.size ∧ v16 = .int .i64 k ∧ (∀ j (h : j < s.size), wr.cell? ⟨w.heap.size, j, none⟩ = some (.int .u8 ((if j < k then up s[j] else s[j]).toNat : Int)) ∧ wr.frozen? ⟨w.heap.size, j, none⟩ = false) ∧ Below w.heap.size w wr) (fun v16 _ => s.size - (intOf v16).toNat)
  case atStart => exact ⟨0, Nat.zero_le _, rfl, fun j h => by rw [if_neg (by omega)]; exact HCS.out j h, HB.out⟩
  case round =>
    obtain ⟨k, hk, rfl, hcs, hbel⟩ := hrel
    have H := Lib.hid (And.intro hcs hbel)
    clear hbel
    by_cases hlt : k < s.size
    · have hk0 : (0 : Int) ≤ (k : Int) := by omega
      have hk1 : (k : Int) < (s.size : Int) := by omega
      have hk2 : (k : Int) < (cap : Int) := by omega
      obtain ⟨c1, c2⟩ := hcs k hlt
      rw [if_neg (by omega)] at c1
      have hu := up_toNat s[k]
      clear hcs
      have HU := Lib.hid hu
      clear hu
      by_cases h1 : 97 ≤ (s[k].toNat : Int)
      · have d1 : decide (97 ≤ (s[k].toNat : Int)) = true := decide_eq_true h1
        by_cases h2 : (s[k].toNat : Int) ≤ 122
        · have d2 : decide ((s[k].toNat : Int) ≤ 122) = true := decide_eq_true h2
          have H12 := Lib.hid (And.intro h1 h2)
          clear h1 h2
          go_wp2
          obtain ⟨hcs, hbel⟩ := H.out
          have hu := HU.out
          rw [if_pos (by have := H12.out; omega)] at hu
          have e : wrap64 (wrap64 ((s[k].toNat : Int)) + -32) % 256 = ((up s[k]).toNat : Int) := by
            have h12 := H12.out
            rw [hu, IntWalk.wrap64_in ((s[k].toNat : Int)) (by omega), IntWalk.wrap64_in _ (by omega)]; omega
          rw [e]
          refine ⟨⟨k + 1, by omega, by go_num, fun j hj => ⟨?_, ?_⟩, hbel.setCell (Nat.le_refl _) _⟩, by simp [intOf]; omega⟩
          · by_cases hjk : j = k
            · subst hjk
              rw [if_pos (by omega)]
              exact World.cell?_setCell_same _ _ _ c1
            · rw [World.cell?_setCell_other _ _ _ _ (by simp), (hcs j hj).1]
              by_cases h3 : j < k
              · rw [if_pos h3, if_pos (by omega)]
              · rw [if_neg h3, if_neg (by omega)]
          · rw [World.frozen?_setCell]; exact (hcs j hj).2
        · have d2 : decide ((s[k].toNat : Int) ≤ 122) = false := decide_eq_false h2
          have H12 := Lib.hid (And.intro h1 h2)
          clear h1 h2
          go_wp2
          obtain ⟨hcs, hbel⟩ := H.out
          have hu := HU.out
          rw [if_neg (by have := H12.out; omega)] at hu
          refine ⟨⟨k + 1, by omega, by go_num, fun j hj => ⟨?_, (hcs j hj).2⟩, hbel⟩, by simp [intOf]; omega⟩
          rw [(hcs j hj).1]
          by_cases h3 : j < k
          · rw [if_pos h3, if_pos (by omega)]
          · by_cases h4 : j = k
            · subst h4; rw [if_neg h3, if_pos (by omega), hu]
            · rw [if_neg h3, if_neg (by omega)]
      · have d1 : decide (97 ≤ (s[k].toNat : Int)) = false := decide_eq_false h1
        have H12 := Lib.hid h1
        clear h1
        go_wp2
        obtain ⟨hcs, hbel⟩ := H.out
        have hu := HU.out
        rw [if_neg (by have := H12.out; omega)] at hu
        refine ⟨⟨k + 1, by omega, by go_num, fun j hj => ⟨?_, (hcs j hj).2⟩, hbel⟩, by simp [intOf]; omega⟩
        rw [(hcs j hj).1]
        by_cases h3 : j < k
        · rw [if_pos h3, if_pos (by omega)]
        · by_cases h4 : j = k
          · subst h4; rw [if_neg h3, if_pos (by omega), hu]
          · rw [if_neg h3, if_neg (by omega)]
    · obtain rfl : k = s.size := by omega
      have hback := run_convert_bytes_back (P := Try.prog) wr 67 9 5 ⟨w.heap.size, 0, none⟩ cap (upL (bys s)) Try.underlying67 Try.underlying5 Try.underlying9 (fun j hj => by
        have hj' : j < s.size := by simpa [upL] using hj
        have := (hcs j hj').1
        rw [if_pos hj'] at this
        rw [add_lit, Nat.zero_add, this]
        simp [upL]
        rfl)
      rw [show (upL (bys s)).length = s.size from by simp [upL]] at hback
      clear hcs
      go_wp2
      go_ret
      exact ⟨rfl, H.out.2⟩
theorem upper_any (s : ByteArray) (w : World) (hs : s.size ≤ 1000000) : Calls Try.prog 41 #[.string s] w fun e w' => e = .returned (strV (upL (bys s))) ∧ Below w.heap.size w w' := by
  go_enter Try.func41, Try.ntmps41
  go_wp2_with (go_at_call 60; refine (each_any s _ hs).mono ?_; rintro e w1 ⟨rfl, hb1⟩; have HB := Lib.hid hb1; clear hb1)
  go_ret
  exact ⟨rfl, HB.out⟩
end Go.Proofs.Ytcjmoobdoinbkaa
