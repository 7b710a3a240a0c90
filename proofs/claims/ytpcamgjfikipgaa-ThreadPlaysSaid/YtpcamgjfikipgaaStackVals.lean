/- The contract of (*frame.Stack).Values: all values that the frames tell, one behind the other. Condition: no more than some thousands of them. -/
import Derived.Test.YtpcamgjfikipgaaClones
import Derived.Deep.LoopGhost
namespace Go.Proofs.Ytpcamgjfikipgaa
open Go.RowKit
set_option linter.unusedVariables false
theorem flat_take_succ {ls : List (List V)} {k : Nat} {l : List V} (h : ls[k]? = some l) : (ls.take (k + 1)).flatten = (ls.take k).flatten ++ l := by
  have hlt : k < ls.length := (List.getElem?_eq_some_iff.1 h).1
  have e : ls[k] = l := (List.getElem?_eq_some_iff.1 h).2
  rw [List.take_succ_eq_append_getElem hlt, List.flatten_append, e]
  simp
theorem flat_take_le (ls : List (List V)) (k : Nat) : ((ls.take k).flatten).length ≤ ls.flatten.length := by
  have h : ls.flatten = (ls.take k).flatten ++ (ls.drop k).flatten := by rw [← List.flatten_append, List.take_append_drop]
  rw [h, List.length_append]
  omega
set_option maxRecDepth 100000 in
set_option maxHeartbeats 1000000 in
theorem stack_values {w : World} {sb : Nat} {t : TypeId} {cs : List Value} {so base : Nat} {lv : Value} {bs : List Nat} (h : Stk w sb t cs so base lv bs) (ls : List (List V)) (hll : ls.length = bs.length)
    (hF : ∀ (i b : Nat) (l : List V), bs[i]? = some b → ls[i]? = some l → ∀ w' : World, Below w.heap.size w w' → Calls Try.prog 26 #[ptr b] w' (Told w' l)) (hn : ls.flatten.length ≤ 100000) (hbn : bs.length ≤ 100000) :
    Calls Try.prog 27 #[.pointer (some ⟨sb, so, none⟩)] w (Told w ls.flatten) := by
  obtain ⟨i0, hi, hz0, hz1, hz2⟩ := info_parts info25
  have hc := h.cell
  have HS := Lib.hid h
  have HF := Lib.hid hF
  have HLL := Lib.hid hll
  obtain ⟨A, c, rfl⟩ := h.len_form
  clear h hF hll
  go_enter Try.func27, Try.ntmps27
  go_wp2
  go_loopg [3, 11] bs.length (fun gk s i wr => ∃ k : Nat, k ≤ bs.length ∧ gk = bs.length - k ∧ i = .int .i64 k ∧ OwnV wr w.heap.size s ((ls.take k).flatten) ∧ Below w.heap.size w wr)
  case atStart => exact ⟨0, Nat.zero_le _, rfl, rfl, World.ownsRow_nil _ _ _ _, Below.refl _ _⟩
  case round =>
    obtain ⟨k, hk, hgk, rfl, ho, hb⟩ := hrel
    have HG := Lib.hid hgk
    have HO := Lib.hid ho
    have HB := Lib.hid hb
    clear hgk ho hb
    by_cases hlt : k < bs.length
    · obtain ⟨b, hb⟩ : ∃ b, bs[k]? = some b := ⟨_, List.getElem?_eq_getElem hlt⟩
      obtain ⟨l, hl⟩ : ∃ l, ls[k]? = some l := ⟨_, List.getElem?_eq_getElem (by have := HLL.out; omega)⟩
      rcases HS.out.form with ⟨e, _⟩ | ⟨g, c', _, hlv, _, _, hrow⟩
      · rw [e] at hlt; simp at hlt
      injection hlv with hA _ hc'
      subst hA
      have hr0 := hrow k b hb
      have hr1 : wr.cell? ⟨g, k, none⟩ = some (.pointer (some ⟨b, 0, none⟩)) := (HB.out.cell (p := ⟨g, k, none⟩) (World.block_lt_of_cell? w _ hr0)).trans hr0
      have HBM := Lib.hid (And.intro hb hl)
      have hsum : Hid (((ls.take k).flatten).length + l.length ≤ 100000) := by
        show _ ≤ _
        rw [← List.length_append, ← flat_take_succ hl]
        exact Nat.le_trans (flat_take_le _ _) hn
      clear hrow hr0 hb hl hc'
      go_wp2_with (first
        | (go_at_call 26; refine (HF.out k b l HBM.out.1 HBM.out.2 _ HB.out).mono ?_; rintro e w2 ⟨v2, rfl, ho2, hb2⟩; obtain ⟨A2, c2, rfl, _, hr2⟩ := ho2.rd; have HR2 := Lib.hid hr2; have HB2 := Lib.hid hb2; clear ho2 hr2 hb2)
        | (at_builtin; refine wpList_append_rd rfl w.heap.size (.tmp 15) (.tmp 17) 23 rfl 25 i0 _ 3 32 Try.underlying23 hi hz0 hz1 hz2 rfl (by omega) _ _ _ (by rfl) (by exact HO.out.below HB2.out) A2 l.length c2 (vcs l) (by rfl) (by exact HR2.out) (vcs_one _) (by have := hsum.out; unfold maxLen; omega) (by have := hsum.out; omega) (by have := HB.out.size; have := HB2.out.size; omega) ?_; intro v3 w3 hown3 hg3 hat3; have R := Lib.hid (And.intro hown3 hg3); clear hown3 hg3 hat3))
      go_roundg (bs.length - (k + 1))
      case rel =>
        obtain ⟨hown3, hg3⟩ := R.out
        refine ⟨k + 1, by omega, rfl, by go_num, ?_, ?_⟩
        · rw [flat_take_succ HBM.out.2]
          exact own_more hown3
        · exact (HB.out.trans (HB2.out.mono HB.out.size)).grown hg3 (by have := HB.out.size; have := HB2.out.size; omega) (fun k hk => (HO.out.lo hk).1)
      case measure => have := HG.out; omega
    · obtain rfl : k = bs.length := by omega
      go_wp2
      go_ret
      have ho := HO.out
      rw [List.take_of_length_le (by have := HLL.out; omega)] at ho
      exact ⟨_, rfl, ho, HB.out⟩
end Go.Proofs.Ytpcamgjfikipgaa
