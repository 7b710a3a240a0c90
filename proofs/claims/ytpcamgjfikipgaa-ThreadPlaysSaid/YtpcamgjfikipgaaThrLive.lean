/- thread.Threads: Live: as many values as all that run tell. Condition: fewer than some thousands of them. -/
import Derived.Test.YtpcamgjfikipgaaThrCells
import Derived.Deep.LoopGhost
namespace Go.Proofs.Ytpcamgjfikipgaa
open Go.RowKit
set_option linter.unusedVariables false
set_option maxRecDepth 100000 in
set_option maxHeartbeats 4000000 in
theorem live_any {w : World} {t mb base : Nat} {m : TE} {f : Int → Option TE} {sz : Nat} {rv : Value} {rs : List Nat} (h : TS w t mb base m f sz rv rs) (es : List LE) (hes : es.length = rs.length)
    (hE : ∀ (i : Nat) (p : LE), es[i]? = some p → rs[i]? = some p.2.1.e ∧ ThE w base p.1 p.2.1 ∧ p.2.2.length = p.2.1.bs.length ∧ p.2.1.bs.length ≤ 1000 ∧ ∀ (j b : Nat) (l : List V), p.2.1.bs[j]? = some b → p.2.2[j]? = some l → ∀ w' : World, Below w.heap.size w w' → Calls Try.prog 26 #[ptr b] w' (Told w' l))
    {N : Nat} (hN : totL es = N) (hN2 : N ≤ 10000) (hr : rs.length ≤ 1000) : Calls Try.prog 64 #[.pointer (some ⟨t, 0, none⟩)] w fun e w' => ∃ A c, e = .returned (.slice A N c) ∧ Below w.heap.size w w' := by
  obtain ⟨i0, hi, hz0, hz1, hz2⟩ := info_parts info25
  obtain ⟨A0, c0, hrv⟩ : ∃ A c, rv = .slice A rs.length c := by
    rcases h.run.2 with ⟨e, h0⟩ | ⟨g, cap, cur, e, _⟩
    · rw [e, h0]; exact ⟨_, _, rfl⟩
    · exact ⟨_, _, e⟩
  have hrow : ∀ (i e : Nat), rs[i]? = some e → ∃ g, A0 = some ⟨g, 0, none⟩ ∧ g < w.heap.size ∧ w.cell? ⟨g, i, none⟩ = some (.pointer (some ⟨e, 0, none⟩)) := fun i e he => by
    rcases h.run.2 with ⟨_, h0⟩ | ⟨g, cap, cur, e2, _⟩
    · have := (List.getElem?_eq_some_iff.1 he).1; omega
    · rw [hrv] at e2
      injection e2 with e2 _ _
      have hc := World.ownsRow.cells h.run (g := g) (by rw [hrv, e2]; rfl) i (ptr e) (by simp [he])
      rw [add_lit, Nat.zero_add] at hc
      exact ⟨g, e2, World.block_lt_of_cell? w _ hc, hc⟩
  subst hrv
  have c1 := h.box.cell (i := 1) rfl
  have HE := Lib.hid hE
  have HN := Lib.hid (And.intro hN (And.intro hN2 hes))
  have HROW := Lib.hid hrow
  obtain ⟨n, hn⟩ : ∃ n, rs.length = n := ⟨_, rfl⟩
  have HL := Lib.hid hn
  rw [hn] at c1 hr
  clear h hE hN hN2 hrow hes hn
  go_enter Try.func64, Try.ntmps64
  go_wp2
  go_loopg [3, 11] n (fun gk s i wr => ∃ (k : Nat) (l : List V), k ≤ n ∧ gk = n - k ∧ i = .int .i64 k ∧ OwnV wr w.heap.size s l ∧ l.length = totL (es.take k) ∧ Below w.heap.size w wr)
  case atStart => exact ⟨0, [], Nat.zero_le _, rfl, rfl, World.ownsRow_nil _ _ _ _, rfl, Below.refl _ _⟩
  case round =>
    obtain ⟨k, l, hk, hgk, rfl, ho, hlen, hb⟩ := hrel
    have HG := Lib.hid hgk
    have HO := Lib.hid ho
    have HLE := Lib.hid hlen
    have HB := Lib.hid hb
    clear hgk ho hlen hb
    by_cases hlt : k < n
    · obtain ⟨⟨c, y, ls⟩, hp⟩ : ∃ p, es[k]? = some p := ⟨_, List.getElem?_eq_getElem (by have := HN.out.2.2; have := HL.out; omega)⟩
      obtain ⟨e1, e2, e3, e4, e5⟩ := HE.out k _ hp
      simp only at e1 e2 e3 e4 e5
      obtain ⟨g, rfl, hgl, hgc⟩ := HROW.out k _ e1
      have x1 : wr.cell? ⟨g, k, none⟩ = some (.pointer (some ⟨y.e, 0, none⟩)) := (HB.out.cell (p := ⟨g, k, none⟩) hgl).trans hgc
      have hst : Stk wr y.e 101 (thc c y) 1 base y.lv y.bs := e2.stk.kp (S := fun _ => False) (Kp.of_below HB.out) id (fun _ _ => id)
      have x0 : wr.cell? ⟨y.e, 0, none⟩ = some (.int .i64 c) := hst.blk.cell rfl
      have hyl := hst.blk.lt
      have hT := totL_take hp
      have hT2 := totL_le es (k + 1)
      simp only at hT
      obtain ⟨fl, hfl⟩ : ∃ fl, ls.flatten.length = fl := ⟨_, rfl⟩
      rw [hfl] at hT
      have hbound : l.length + fl + 1 ≤ 10001 := by
        have := HLE.out; have := HN.out.1; have := HN.out.2.1
        have h1 : (if c = -1 then 0 else 1) ≤ 1 := by split <;> omega
        omega
      obtain ⟨L, hL⟩ : ∃ L, ls.flatten = L := ⟨_, rfl⟩
      rw [hL] at hfl
      have HT := Lib.hid (And.intro hT hfl)
      have hv : Calls Try.prog 27 #[.pointer (some ⟨y.e, 1, none⟩)] wr fun e w' => ∃ A c, e = .returned (.slice A fl c) ∧ RdV w' A fl L ∧ Below wr.heap.size wr w' := by
        refine (stack_values hst ls e3 (fun j b l h1 h2 w' hb => e5 j b l h1 h2 w' (HB.out.trans (hb.mono HB.out.size))) (by rw [hL]; omega) (by omega)).mono ?_
        rintro e w' ⟨v, rfl, ho, hbe⟩
        rw [hL] at ho
        obtain ⟨A, c, rfl, _, hr⟩ := ho.rd
        rw [hfl] at hr ⊢
        exact ⟨A, c, rfl, hr, hbe⟩
      have HV := Lib.hid hv
      have HST := Lib.hid hst
      clear hp e1 e2 e3 e4 e5 hgc hst hT hT2 hfl hL hv
      by_cases hc : c = -1
      · subst hc
        go_wp2_with (first
          | (go_at_call 27; refine HV.out.mono ?_; rintro e w2 ⟨A2, c2, rfl, hr2, hb2⟩; have hz0' := (hb2.cell (p := ⟨y.e, 0, none⟩) hyl).trans x0; have HR2 := Lib.hid hr2; have HB2 := Lib.hid hb2; clear hr2 hb2)
          | (at_builtin; refine wpList_append_rd rfl w.heap.size (.tmp 15) (.tmp 19) 23 rfl 25 i0 _ 3 32 Try.underlying23 hi hz0 hz1 hz2 rfl (by omega) _ _ _ (by rfl) (by exact HO.out.below HB2.out) A2 fl c2 (vcs L) (by rfl) (by exact HR2.out) (vcs_one _) (by have := HT.out.2; unfold maxLen; omega) (by have := HT.out.2; omega) (by have := HB.out.size; have := HB2.out.size; omega) ?_; intro v3 w3 hown3 hg3 hat3; have hb3 : Below w.heap.size w w3 := (HB.out.trans (HB2.out.mono HB.out.size)).grown hg3 (by have := HB.out.size; have := HB2.out.size; omega) (fun q hq => (HO.out.lo hq).1); have hz1' : w3.cell? ⟨y.e, 0, none⟩ = some (.int .i64 (-1)) := (hg3.cell_far ⟨y.e, 0, none⟩ (Nat.lt_of_lt_of_le hyl HB2.out.size) (fun e => own_ne_blk (HO.out.below HB2.out) e.symm (HST.out.blk.below HB2.out hyl) (by decide) rfl)).trans hz0'; have R3 := Lib.hid (And.intro hown3 hb3); clear hown3 hg3 hat3 hb3))
        go_roundg (n - (k + 1))
        case rel =>
          obtain ⟨hown3, hb3⟩ := R3.out
          refine ⟨k + 1, l ++ L, by omega, rfl, by go_num, own_more (by rw [HT.out.2]; exact hown3), ?_, hb3⟩
          rw [List.length_append, HLE.out, HT.out.1, HT.out.2]
          simp
        case measure => have := HG.out; omega
      · have q1 : (c != -1) = true := by simpa using hc
        have q1b : decide (c = -1) = false := decide_eq_false hc
        have HC := Lib.hid hc
        clear hc
        go_wp2_with (first
          | (go_at_call 27; refine HV.out.mono ?_; rintro e w2 ⟨A2, c2, rfl, hr2, hb2⟩; have hz0' := (hb2.cell (p := ⟨y.e, 0, none⟩) hyl).trans x0; have HR2 := Lib.hid hr2; have HB2 := Lib.hid hb2; clear hr2 hb2)
          | (at_builtin; refine wpList_append_rd rfl w.heap.size (.tmp 15) (.tmp 19) 23 rfl 25 i0 _ 3 32 Try.underlying23 hi hz0 hz1 hz2 rfl (by omega) _ _ _ (by rfl) (by exact HO.out.below HB2.out) A2 fl c2 (vcs L) (by rfl) (by exact HR2.out) (vcs_one _) (by have := HT.out.2; unfold maxLen; omega) (by have := HT.out.2; omega) (by have := HB.out.size; have := HB2.out.size; omega) ?_; intro v3 w3 hown3 hg3 hat3; have hb3 : Below w.heap.size w w3 := (HB.out.trans (HB2.out.mono HB.out.size)).grown hg3 (by have := HB.out.size; have := HB2.out.size; omega) (fun q hq => (HO.out.lo hq).1); have hz1' : w3.cell? ⟨y.e, 0, none⟩ = some (.int .i64 c) := (hg3.cell_far ⟨y.e, 0, none⟩ (Nat.lt_of_lt_of_le hyl HB2.out.size) (fun e => own_ne_blk (HO.out.below HB2.out) e.symm (HST.out.blk.below HB2.out hyl) (by decide) rfl)).trans hz0'; have R3 := Lib.hid (And.intro hown3 hb3); clear hown3 hg3 hat3 hb3)
          | (at_builtin; refine wpList_append_rd rfl w.heap.size (.tmp 26) (.tmp 32) 23 rfl 25 i0 _ 3 32 Try.underlying23 hi hz0 hz1 hz2 rfl (by omega) v3 (l.length + fl) (vcs l ++ vcs L) (by rfl) (by exact R3.out.1.alloc _) (some ⟨w3.heap.size, 0, none⟩) 1 1 (V.ref c).cs (by rfl) (by exact Rd.of_blk (Blk.made (by simp) 25 _) rfl) (vs1_one _) (by have := HT.out.2; unfold maxLen; omega) (by have := HT.out.2; omega) (by have := R3.out.2.size; simp; omega) ?_; intro v4 w4 hown4 hg4 hat4; have R4 := Lib.hid (And.intro hown4 hg4); clear hown4 hg4 hat4))
        go_roundg (n - (k + 1))
        case rel =>
          obtain ⟨hown3, hb3⟩ := R3.out
          obtain ⟨hown4, hg4⟩ := R4.out
          have ho3 : OwnV w3 w.heap.size v3 (l ++ L) := own_more (by rw [HT.out.2]; exact hown3)
          refine ⟨k + 1, (l ++ L) ++ [V.ref c], by omega, rfl, by go_num, ?_, ?_, ?_⟩
          · refine own_more ?_
            rw [List.length_append, vcs_append, HT.out.2]
            exact hown4
          · rw [List.length_append, List.length_append, HLE.out, HT.out.1, HT.out.2, if_neg HC.out]
            simp; omega
          · exact (below_alloc hb3 _).grown hg4 (by have := hb3.size; simp; omega) (fun q hq => (ho3.lo hq).1)
        case measure => have := HG.out; omega
    · obtain rfl : k = n := by omega
      go_wp2
      go_ret
      have ho := HO.out
      have hll := HLE.out
      rw [List.take_of_length_le (by have := HN.out.2.2; have := HL.out; omega), HN.out.1] at hll
      obtain ⟨A, c, rfl, _, _⟩ := ho.rd
      exact ⟨A, c, by rw [hll]; rfl, HB.out⟩
end Go.Proofs.Ytpcamgjfikipgaa
