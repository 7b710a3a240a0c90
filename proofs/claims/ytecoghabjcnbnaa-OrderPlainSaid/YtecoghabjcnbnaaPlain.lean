/- The contract of order.Plain at numbers. Condition: no more than some thousands of values, all of them numbers. -/
import Derived.Test.YtecoghabjcnbnaaSteps
import Derived.Test.YtecoghabjcnbnaaCmp
import Derived.Deep.LoopGhost
namespace Go.Proofs.Ytecoghabjcnbnaa
open Go.RowKit
set_option linter.unusedVariables false
def Ints (vs : List V) : Prop := ∀ x ∈ vs, x = V.int x.n
/-- One step that is told right. -/
def stepI (s : S3) : S3 := match s.1[s.2.2 - 1]?, s.1[s.2.2]? with | some x, some y => tellS (cmpI x.n y.n) s | _, _ => s
def iterI : Nat → S3 → S3
  | 0, s => s
  | k + 1, s => stepI (iterI k s)
theorem exch_ints {vs : List V} (h : Ints vs) (J : Nat) : Ints (exch vs J) := by
  unfold exch swp
  split
  · rename_i x y hx hy
    intro z hz
    rcases List.mem_or_eq_of_mem_set hz with hz | rfl
    · rcases List.mem_or_eq_of_mem_set hz with hz | rfl
      · exact h z hz
      · exact h _ (List.mem_of_getElem? hy)
    · exact h _ (List.mem_of_getElem? hx)
  · exact h
theorem tellS_ints {c : Int} {s : S3} (h : Ints s.1) : Ints (tellS c s).1 := by
  unfold tellS
  split
  · split
    · split <;> exact exch_ints h _
    · exact h
  · exact h
theorem tellS_i (c : Int) (s : S3) (h : s.2.1 ≤ s.1.length + 1) : (tellS c s).2.1 ≤ s.1.length + 1 := by
  unfold tellS
  split
  · split
    · split <;> simp only <;> omega
    · simp only; omega
  · exact h
theorem Srt.alloc {w : World} {base g : Nat} {v : Value} {vs : List V} {i j : Int} (h : Srt w base g v vs i j) (o : Obj) : Srt (w.alloc o) base g v vs i j :=
  h.below (below_alloc (Below.refl _ _) o)
theorem below_two {w2 w3 : World} {n : Nat} {o o' : Obj} (h : Below ((w2.alloc o).alloc o').heap.size ((w2.alloc o).alloc o') w3) (hn : n ≤ w2.heap.size) : Below n w2 w3 :=
  ((below_alloc (below_alloc (Below.refl _ _) o) o').mono hn).trans (h.mono (by simp; omega))
/-- What Plain leaves. -/
def PlainD (w : World) (vs : List V) (e : Ending) (w' : World) : Prop :=
  ∃ v s k, e = .returned (.tuple #[v, .int .i64 0]) ∧ OwnV w' w.heap.size v s.1 ∧ iterI k (vs, 1, 1) = s ∧ s.1.length ≤ s.2.1 ∧ s.1.length = vs.length ∧ Ints s.1 ∧ Below w.heap.size w w'
theorem kp_below {S : Nat → Prop} {w w1 w2 : World} (h : Below w.heap.size w w1) (k : Kp S w1 w2) (hs : ∀ b, b < w.heap.size → ¬ S b) : Below w.heap.size w w2 :=
  ((Kp.of_below (S := S) h).trans k (fun _ _ x => x)).below hs
set_option maxRecDepth 100000 in
set_option maxHeartbeats 8000000 in
theorem plain_any {w : World} {A : Option Addr} {n c : Nat} {vs : List V} (hv : RdV w A n vs) (hn : n ≤ 1000) (hint : Ints vs) : Calls Try.prog 18 #[.slice A n c] w (PlainD w vs) := by
  have hl := hv.len
  have HV := Lib.hid hv
  have HI := Lib.hid hint
  have HL := Lib.hid hl
  clear hv hint hl
  go_enter Try.func18, Try.ntmps18
  go_wp2_with (go_at_call 9; refine (order_new HV.out (by omega)).mono ?_; rintro e w1 ⟨g, v, rfl, hg, hs, hb⟩; have HS1 := Lib.hid hs; have HB1 := Lib.hid hb; clear hs hb)
  go_loopg [] (n * n + 1) (fun gk wr => ∃ s : S3, mu s ≤ gk ∧ Srt wr w.heap.size g v s.1 s.2.1 s.2.2 ∧ OkS s ∧ s.1.length = n ∧ s.2.1 ≤ n + 1 ∧ Ints s.1 ∧ (∃ k, iterI k (vs, 1, 1) = s) ∧ Below w.heap.size w wr)
  case atStart =>
    exact ⟨(vs, 1, 1), by have := mu_start vs; rw [HL.out] at this; exact this, HS1.out, ⟨Nat.le_refl _, Nat.le_refl _⟩, HL.out, by simp, HI.out, ⟨0, rfl⟩, HB1.out⟩
  case round =>
    obtain ⟨⟨us, i, j⟩, hmu, hs, hok, hlen, hi1, hint, hk, hbl⟩ := hrel
    simp only at hs hlen hi1 hint
    have HS := Lib.hid hs
    have HO := Lib.hid hok
    have HR := Lib.hid (And.intro hmu (And.intro hlen (And.intro hint hk)))
    have HBL := Lib.hid hbl
    by_cases hi : i < us.length
    · obtain ⟨J, x, y, rfl, hx, hy⟩ := ask_two hok hi
      have hxi := hint x (List.mem_of_getElem? hx)
      have hyi := hint y (List.mem_of_getElem? hy)
      have hx2 : us[J]? = some (V.int x.n) := by rw [← hxi]; exact hx
      have hy2 : us[J + 1]? = some (V.int y.n) := by rw [← hyi]; exact hy
      obtain ⟨a, ha⟩ : ∃ a, x.n = a := ⟨_, rfl⟩
      obtain ⟨b, hb⟩ : ∃ b, y.n = b := ⟨_, rfl⟩
      rw [ha] at hx2
      rw [hb] at hy2
      have HX := Lib.hid (And.intro hx2 hy2)
      have hlt := hs.blk.lt
      have hdn := mu_down (c := cmpI a b) hok hi
      have HD := Lib.hid hdn
      clear hs hok hmu hlen hint hk hbl hx hy hxi hyi hx2 hy2 ha hb hdn
      go_wp2_with (first
        | (go_at_call 10; refine (pair_some HS.out hi HX.out.1 HX.out.2 (by have := HR.out.2.1; omega)).mono ?_; rintro e w2 ⟨rfl, hb2⟩; have HB2 := Lib.hid hb2; clear hb2; unfold V.agg V.int)
        | (go_at_call 17; refine (compare_int a b _).mono ?_; rintro e w3 ⟨rfl, hb3⟩; have hs3 := (((HS.out.below HB2.out).alloc _).alloc _).below hb3; have HS3 := Lib.hid hs3; have h23 := HB2.out.trans (below_two hb3 HB2.out.size); have H23 := Lib.hid h23; clear hb3 hs3 h23)
        | (go_at_call 11; refine (tell_any HS3.out HO.out (by have := HR.out.2.1; omega) (by have := HR.out.2.1; omega) (cmpI a b)).mono ?_; rintro e w4 ⟨rfl, hs4, hk4⟩; have HS4 := Lib.hid (And.intro hs4 hk4); clear hs4 hk4))
      go_roundg (mu (tellS (cmpI a b) (us, i, J + 1)))
      case rel =>
        obtain ⟨hmu, hlen, hint, k, hk⟩ := HR.out
        obtain ⟨hs4, hk4⟩ := HS4.out
        refine ⟨tellS (cmpI a b) (us, i, J + 1), Nat.le_refl _, hs4, tellS_ok HO.out, by rw [tellS_len]; exact hlen, by have := tellS_i (cmpI a b) (us, i, J + 1) (by rw [hlen]; exact hi1); rwa [hlen] at this, tellS_ints hint, ⟨k + 1, ?_⟩, ?_⟩
        · show stepI (iterI k (vs, 1, 1)) = _
          rw [hk]
          unfold stepI
          simp only [Nat.add_sub_cancel]
          rw [HX.out.1, HX.out.2]
          rfl
        · refine kp_below (HBL.out.trans (H23.out.mono HBL.out.size)) hk4 (fun b hb hS => ?_)
          rcases hS with e | e
          · omega
          · have := (HS3.out.own.lo e).1; omega
      case measure => exact Nat.lt_of_lt_of_le HD.out HR.out.1
    · have HI2 := Lib.hid hi
      clear hs hok hmu hlen hint hk hbl
      go_wp2_with (first
        | (go_at_call 10; refine (pair_none HS.out (by omega) (by omega)).mono ?_; rintro e w2 ⟨rfl, hb2⟩; have HB2 := Lib.hid hb2; clear hb2; unfold V.agg V.null)
        | (go_at_call 13; refine (sort_values (((HS.out.below HB2.out).alloc _).alloc _) (by have := HR.out.2.1; omega)).mono ?_; rintro e w3 ⟨v3, rfl, ho3, hb3⟩; have H3 := Lib.hid (And.intro ho3 hb3); clear ho3 hb3))
      go_ret2
      obtain ⟨hmu, hlen, hint, k, hk⟩ := HR.out
      obtain ⟨ho3, hb3⟩ := H3.out
      have h23 := HB2.out.trans (below_two hb3 HB2.out.size)
      refine ⟨v3, (us, i, j), k, rfl, ho3.mono ?_, hk, by have := HI2.out; show us.length ≤ i; omega, by rw [hlen]; exact HL.out.symm, hint, HBL.out.trans (h23.mono HBL.out.size)⟩
      have := HBL.out.size
      have := HB2.out.size
      simp
      omega
end Go.Proofs.Ytecoghabjcnbnaa
