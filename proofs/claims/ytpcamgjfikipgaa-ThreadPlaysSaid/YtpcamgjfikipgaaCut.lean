/- The contract of unwind.Cut: the frames behind one go, the last one first. Condition: no more than some thousands of frames. -/
import Derived.Test.YtpcamgjfikipgaaStackVals
namespace Go.Proofs.Ytpcamgjfikipgaa
open Go.RowKit
set_option linter.unusedVariables false
theorem own_keep {S : Nat → Prop} {w w' : World} {base n : Nat} {v : Value} {xs : List Value} {e size : Nat} (h : w.ownsRow base e size v n xs) (k : Kp S w w') (hn : ∀ g, v.ownBlock = some g → ¬ S g) : w'.ownsRow base e size v n xs := by
  refine ⟨h.1, ?_⟩
  rcases h.2 with h0 | ⟨g, cap, cur, rfl, hb, hg, rest⟩
  · exact .inl h0
  · exact .inr ⟨g, cap, cur, rfl, hb, (k.block g (Array.getElem?_eq_some_iff.1 hg).1 (hn g rfl)).trans hg, rest⟩
theorem set_self {cs : List Value} {so : Nat} {lv : Value} (h : cs[so]? = some lv) : cs.set so lv = cs := by
  apply List.ext_getElem?
  intro i
  rw [List.getElem?_set]
  split
  · rename_i e
    subst e
    rw [h]
    simp [(List.getElem?_eq_some_iff.1 h).1]
  · rfl
theorem len_m {w : World} {sb : Nat} {t : TypeId} {cs : List Value} {so base : Nat} {lv : Value} {bs : List Nat} {m : Nat} (h : Stk w sb t cs so base lv bs) (hm : bs.length = m) : Calls Try.prog 24 #[.pointer (some ⟨sb, so, none⟩)] w fun e w' => e = .returned (.int .i64 m) ∧ w = w' := by
  subst hm
  exact len_any h
/-- What Cut leaves: k frames stay. -/
def CutD (w : World) (sb : Nat) (t : TypeId) (cs : List Value) (so base : Nat) (lv : Value) (bs : List Nat) (k : Nat) (e : Ending) (w' : World) : Prop :=
  ∃ v lv', e = .returned v ∧ w'.ownsRow w.heap.size 35 1 v (bs.drop k).length ((bs.drop k).reverse.map ptr) ∧ Stk w' sb t (cs.set so lv') so base lv' (bs.take k) ∧ Kp (fun b => b = sb ∨ lv.ownBlock = some b) w w' ∧ lv'.ownBlock = lv.ownBlock
set_option maxRecDepth 100000 in
set_option maxHeartbeats 2000000 in
theorem cut_any {w : World} {sb : Nat} {t : TypeId} {cs : List Value} {so base : Nat} {lv : Value} {bs : List Nat} (h : Stk w sb t cs so base lv bs) (at_ : Int) (k : Nat) (hk : at_ + 1 = k) (hkn : k ≤ 100000) (hn : bs.length < 100000) :
    Calls Try.prog 34 #[.pointer (some ⟨sb, so, none⟩), .int .i64 at_] w (CutD w sb t cs so base lv bs k) := by
  obtain ⟨i0, hi, hz0, hz1, hz2⟩ := info_parts info35
  obtain rfl : at_ = (k : Int) - 1 := by omega
  have HS := Lib.hid h
  clear h hk
  go_enter Try.func34, Try.ntmps34
  go_wp2
  go_loopg [5] bs.length (fun gk s wr => ∃ (n : Nat) (lv' : Value), n ≤ bs.length ∧ gk = n ∧ (k ≤ n ∨ n = bs.length) ∧ wr.ownsRow w.heap.size 35 1 s (bs.length - n) ((bs.drop n).reverse.map ptr) ∧ Stk wr sb t (cs.set so lv') so base lv' (bs.take n) ∧ Kp (fun b => b = sb ∨ lv.ownBlock = some b) w wr ∧ lv'.ownBlock = lv.ownBlock)
  case atStart =>
    refine ⟨bs.length, lv, Nat.le_refl _, rfl, .inr rfl, ?_, ?_, Kp.refl _ _, rfl⟩
    · simpa using World.ownsRow_nil w w.heap.size 35 1
    · rw [set_self HS.out.at_, List.take_length]; exact HS.out
  case round =>
    obtain ⟨n, lv', hnl, hgk, hkk, hown, hst, hkp, hob⟩ := hrel
    have HG := Lib.hid hgk
    have HO := Lib.hid hown
    have HT := Lib.hid hst
    have HK := Lib.hid hkp
    have HB := Lib.hid hob
    have htl : (bs.take n).length = n := by simp; omega
    clear hgk hown hst hkp hob
    by_cases hlt : k < n
    · obtain ⟨m, hm⟩ : ∃ m, n = m + 1 := ⟨n - 1, by omega⟩
      obtain ⟨b, hb⟩ : ∃ b, bs[m]? = some b := ⟨_, List.getElem?_eq_getElem (by omega)⟩
      have e1 : bs.take n = bs.take m ++ [b] := by subst hm; rw [List.take_succ_eq_append_getElem (by omega), (List.getElem?_eq_some_iff.1 hb).2]
      have e2 : bs.drop m = b :: bs.drop n := by subst hm; rw [List.drop_eq_getElem_cons (by omega), (List.getElem?_eq_some_iff.1 hb).2]
      have q1 : decide (k < n) = true := by simp; omega
      have q2 : decide (0 < n) = true := by simp; omega
      have hnn : n < 100000 := by omega
      have HE := Lib.hid (And.intro e1 e2)
      have HM := Lib.hid hm
      have HKM := Lib.hid hlt
      have HS1 : Hid (Stk wr sb t (cs.set so lv') so base lv' (bs.take m ++ [b])) := by
        have := HT.out
        rw [e1] at this
        exact this
      have HL := Lib.hid htl
      clear hb e1 e2 htl hlt hkk hm
      go_wp2_with (first
        | (go_at_call 24; refine (len_m HT.out HL.out).mono ?_; rintro e w2 ⟨rfl, rfl⟩)
        | (go_at_call 20; refine (pop_some HS1.out (by have := HM.out; simp; omega)).mono ?_; rintro e w2 ⟨rfl, lv2, hs2, hk2, ho2⟩; have HW2 : Hid (w2.ownsRow w.heap.size 35 1 u5 (bs.length - n) ((bs.drop n).reverse.map ptr)) := own_keep HO.out hk2 (fun g hg hc => by have h1 := (World.ownsRow.lt HO.out g hg).1; rcases hc with rfl | hc; (have := HS.out.blk.lt; omega); (rw [HB.out] at hc; have := (World.ownsRow.lt HS.out.own g hc).2; omega)); have R2 := Lib.hid (And.intro hs2 (And.intro hk2 ho2)); have hsz : w.heap.size ≤ w2.heap.size := Nat.le_trans HK.out.size hk2.size; clear hs2 hk2 ho2; unfold ptr)
        | (at_builtin; refine wpList_append_rd rfl w.heap.size (.tmp 16) (.tmp 19) 45 rfl 35 i0 (.pointer none) 1 8 Try.underlying45 hi hz0 hz1 hz2 rfl (by omega) _ (bs.length - n) ((bs.drop n).reverse.map ptr) (by rfl) (by exact HW2.out.alloc _) (some ⟨w2.heap.size, 0, none⟩) 1 1 [ptr b] (by rfl) (by exact Rd.of_blk (Blk.made rfl _ [ptr b]) rfl) (by intro u hu; simp [ptr] at hu; subst hu; rfl) (by unfold maxLen; omega) (by omega) (by simp; omega) ?_; intro v3 w3 hown3 hg3 hat3; have R3 := Lib.hid (And.intro hown3 hg3); clear hown3 hg3 hat3))
      go_roundg m
      case rel =>
        obtain ⟨hs2, hk2, ho2⟩ := R2.out
        obtain ⟨hown3, hg3⟩ := R3.out
        have hk3 : Kp (fun x => u5.ownBlock = some x) w2 w3 := ((Kp.refl _ w2).alloc _).trans (Kp.of_grown hg3 (fun g e => e)) (fun b _ hb => hb)
        have hlo : ∀ x, u5.ownBlock = some x → w.heap.size ≤ x := fun x hx => (World.ownsRow.lt HO.out x hx).1
        have hm0 := HM.out
        have hk0 := HKM.out
        refine ⟨m, lv2, by omega, rfl, .inl (by omega), ?_, ?_, ?_, by rw [ho2, HB.out]⟩
        · have hm := HM.out
          have e : bs.length - m = bs.length - n + 1 := by omega
          rw [e, HE.out.2, List.reverse_cons, List.map_append]
          exact hown3
        · rw [List.set_set] at hs2
          exact hs2.kp hk3 (fun e => by have := hlo _ e; have := HS.out.blk.lt; omega) (fun g hg e => by
            rw [ho2, HB.out] at hg
            have := hlo _ e
            have := (World.ownsRow.lt HS.out.own g hg).2
            omega)
        · have k1 : Kp (fun b => b = sb ∨ lv.ownBlock = some b) w w2 := HK.out.trans hk2 (fun x _ hx => by rw [HB.out] at hx; exact hx)
          exact k1.trans hk3 (fun x hx e => by have := hlo x e; omega)
      case measure => (have := HG.out; have := HM.out; omega)
    · have hge : n ≤ k := by omega
      have hout : Hid ((bs.drop n) = (bs.drop k) ∧ (bs.take n) = (bs.take k) ∧ bs.length - n = (bs.drop k).length) := by
        rcases hkk with h1 | h1
        · obtain rfl : n = k := by omega
          exact ⟨rfl, rfl, by simp⟩
        · subst h1
          exact ⟨by rw [List.drop_length, List.drop_eq_nil_of_le hge], by rw [List.take_length, List.take_of_length_le hge], by simp; omega⟩
      have q1' : decide (k < n) = false := by simp; omega
      have HL := Lib.hid htl
      clear htl hkk
      go_wp2_with (go_at_call 24; refine (len_m HT.out HL.out).mono ?_; rintro e w2 ⟨rfl, rfl⟩)
      go_ret
      obtain ⟨e1, e2, e3⟩ := hout.out
      have ho := HO.out
      have ht := HT.out
      rw [e1, e3] at ho
      rw [e2] at ht
      exact ⟨_, lv', rfl, ho, ht, HK.out, HB.out⟩
end Go.Proofs.Ytpcamgjfikipgaa
