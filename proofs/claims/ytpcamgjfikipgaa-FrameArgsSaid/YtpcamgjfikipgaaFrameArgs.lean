/- dreylaw20.FrameArgs: for every params, defaults and args the call returns true and its arguments read as before: the statement Rows.FrameArgsSaid. No condition. -/
import Derived.Test.YtpcamgjfikipgaaGoes
import Derived.Deep.LoopGhost
import Derived.Test.YtpcamgjfikipgaaRows
import Derived.ProofKit
import Derived.OpenShut
import Derived.Below
namespace Go.Proofs.Ytpcamgjfikipgaa
open Go.RowKit
set_option linter.unusedVariables false
def dsV (k : Nat) : List V := (List.range k).map fun (i : Nat) => V.int (1000 + (i : Int))
def asV (k : Nat) : List V := (List.range k).map fun (i : Nat) => V.int (i : Int)
theorem dsV_succ (k : Nat) : vcs (dsV (k + 1)) = vcs (dsV k) ++ (V.int (1000 + (k : Int))).cs := by simp [dsV, List.range_succ, vcs]
theorem asV_succ (k : Nat) : vcs (asV (k + 1)) = vcs (asV k) ++ (V.int (k : Int)).cs := by simp [asV, List.range_succ, vcs]
theorem vs_one (v : V) : ∀ u ∈ v.cs, u.oneCell' = true := by
  intro u hu
  simp [V.cs] at hu
  rcases hu with rfl | rfl | rfl <;> rfl
theorem args_elem (p k j : Nat) (hd : k ≤ p) (h1 : j ≤ p) (h2 : p ≤ k + j) : ∀ i, i < p → (asV j ++ (dsV k).drop (k - (p - j)))[i]? = some (V.int (if i < j then (i : Int) else 1000 + (i : Int) - ((p : Int) - (k : Int)))) := by
  intro i hi
  have hl : (asV j).length = j := by simp [asV]
  by_cases hij : i < j
  · rw [if_pos hij, List.getElem?_append_left (by rw [hl]; exact hij)]
    simp [asV, hij]
  · rw [if_neg hij, List.getElem?_append_right (by rw [hl]; omega), hl, List.getElem?_drop]
    have e : k - (p - j) + (i - j) < k := by omega
    simp only [dsV, List.getElem?_map, List.getElem?_range e, Option.map_some]
    congr 2
    omega
theorem own_form {w : World} {base : Nat} {e : TypeId} {size n : Nat} {v : Value} {xs : List Value} (h : w.ownsRow base e size v n xs) : ∃ A c, v = .slice A n c ∧ n ≤ c := by
  rcases h.2 with ⟨rfl, rfl⟩ | ⟨g, cap, cur, rfl, _, _, hn, _⟩
  · exact ⟨_, _, rfl, Nat.le_refl _⟩
  · exact ⟨_, _, rfl, hn⟩
set_option maxRecDepth 100000 in
set_option maxHeartbeats 4000000 in
theorem frameArgs_walk (p d a : Nat) (hp : p ≤ 50) (hd : d ≤ p) (ha : a ≤ 60) (w : World) : Calls Try.prog 3 #[.int .i64 p, .int .i64 d, .int .i64 a] w fun e w' => e = .returned (.bool true) ∧ Below w.heap.size w w' := by
  obtain ⟨i0, hi, hz0, hz1, hz2⟩ := info_parts info25
  have t1 : decide ((p : Int) < 0) = false := by simp
  have t2 : decide ((50 : Int) < (p : Int)) = false := by simp; omega
  have t3 : decide ((d : Int) < 0) = false := by simp
  have t4 : decide (p < d) = false := by simp; omega
  have t5 : decide ((a : Int) < 0) = false := by simp
  have t6 : decide ((60 : Int) < (a : Int)) = false := by simp; omega
  go_enter Try.func3, Try.ntmps3
  go_wp2_with (go_at_call 13; refine (goes20 w).mono ?_; rintro e w1 ⟨rfl, hb1⟩)
  have HB1 := Lib.hid hb1
  clear hb1
  go_loopg [7, 42] d (fun gk s i wr => ∃ k : Nat, k ≤ d ∧ gk = d - k ∧ i = .int .i64 k ∧ wr.ownsRow w.heap.size 25 3 s k (vcs (dsV k)) ∧ Below w.heap.size w wr)
  case atStart => exact ⟨0, Nat.zero_le _, rfl, rfl, World.ownsRow_nil _ _ _ _, HB1.out⟩
  case round =>
    obtain ⟨k, hk, hgk, rfl, hown, hb⟩ := hrel
    have HG := Lib.hid hgk
    clear hgk
    have HO := Lib.hid hown
    have HB := Lib.hid hb
    have HK := Lib.hid (And.intro hk (And.intro hd hp))
    clear hown hb
    by_cases hlt : k < d
    · go_wp2_with (first
       | (go_at_call 14; refine (int_any _ _).mono ?_; rintro e w' ⟨rfl, rfl⟩; unfold V.agg V.int)
       | (at_builtin; refine wpList_append_rd rfl w.heap.size (.tmp 45) (.tmp 49) 23 rfl 25 i0 _ 3 32 Try.underlying23 hi hz0 hz1 hz2 rfl (by omega) _ _ _ (by rfl) (by exact ((HO.out).alloc _).alloc _) (some ⟨wr.heap.size + 1, 0, none⟩) 1 1 (V.int (1000 + (k : Int))).cs (by rfl) (by exact Rd.of_blk (Blk.made (by simp) 25 _) rfl) (vs_one _) (by have := HK.out; unfold maxLen; omega) (by have := HK.out; omega) (by have := HB.out.size; simp; omega) ?_; intro v1 w1 hown1 hg1 hat1; have R := Lib.hid (And.intro hown1 (And.intro hg1 hat1)); clear hown1 hg1 hat1))
      go_roundg (d - (k + 1))
      case rel =>
        obtain ⟨hown1, hg1, hat1⟩ := R.out
        exact ⟨k + 1, by omega, rfl, by go_num, by rw [dsV_succ]; exact hown1, ((below_alloc (below_alloc HB.out _) _).grown hg1 (by have := HB.out.size; simp; omega) (fun g hg => (HO.out.lt g hg).1))⟩
      case measure => have := HG.out; omega
    · obtain rfl : k = d := by omega
      go_wp2
      obtain ⟨wo, rfl⟩ : ∃ wo : World, wo = wr := ⟨_, rfl⟩
      obtain ⟨A7, c7, hu7, hc7⟩ : ∃ A7 c7, u7 = .slice A7 k c7 ∧ k ≤ c7 := own_form HO.out
      subst hu7
      have H7 : Hid (RdV wo A7 k (dsV k)) := Rd.of_own HO.out
      clear HO HG HK
      go_loopg [8, 53] a (fun gk s i wr => ∃ j : Nat, j ≤ a ∧ gk = a - j ∧ i = .int .i64 j ∧ wr.ownsRow wo.heap.size 25 3 s j (vcs (asV j)) ∧ Below wo.heap.size wo wr)
      case atStart => exact ⟨0, Nat.zero_le _, rfl, rfl, World.ownsRow_nil _ _ _ _, Below.refl _ _⟩
      case round =>
        obtain ⟨j, hj, hgk, rfl, hown, hb⟩ := hrel
        have HG := Lib.hid hgk
        have HO := Lib.hid hown
        have HB2 := Lib.hid hb
        have HK := Lib.hid (And.intro hj ha)
        clear hgk hown hb
        by_cases hlt : j < a
        · go_wp2_with (first
           | (go_at_call 14; refine (int_any _ _).mono ?_; rintro e w' ⟨rfl, rfl⟩; unfold V.agg V.int)
           | (at_builtin; refine wpList_append_rd rfl wo.heap.size (.tmp 56) (.tmp 59) 23 rfl 25 i0 _ 3 32 Try.underlying23 hi hz0 hz1 hz2 rfl (by omega) _ _ _ (by rfl) (by exact ((HO.out).alloc _).alloc _) (some ⟨wr.heap.size + 1, 0, none⟩) 1 1 (V.int (j : Int)).cs (by rfl) (by exact Rd.of_blk (Blk.made (by simp) 25 _) rfl) (vs_one _) (by have := HK.out; unfold maxLen; omega) (by have := HK.out; omega) (by have := HB2.out.size; simp; omega) ?_; intro v1 w1 hown1 hg1 hat1; have R := Lib.hid (And.intro hown1 (And.intro hg1 hat1)); clear hown1 hg1 hat1))
          go_roundg (a - (j + 1))
          case rel =>
            obtain ⟨hown1, hg1, hat1⟩ := R.out
            exact ⟨j + 1, by omega, rfl, by go_num, by rw [asV_succ]; exact hown1, ((below_alloc (below_alloc HB2.out _) _).grown hg1 (by have := HB2.out.size; simp; omega) (fun g hg => (HO.out.lt g hg).1))⟩
          case measure => have := HG.out; omega
        · obtain rfl : j = a := by omega
          obtain ⟨A8, c8, hu8, hc8⟩ : ∃ A8 c8, u8 = .slice A8 j c8 ∧ j ≤ c8 := own_form HO.out
          subst hu8
          have H8 : Hid (RdV wr A8 j (asV j)) := Rd.of_own HO.out
          have H9 : Hid (RdV wr A7 k (dsV k)) := H7.out.below HB2.out
          have HB3 : Hid (Below w.heap.size w wr) := HB.out.trans (HB2.out.mono HB.out.size)
          clear HO HG HK H7 HB HB2
          by_cases hno : p < j ∨ k + j < p
          · have q1 : decide ((p : Int) < (j : Int)) = decide (p < j) := by simp
            go_wp2_with (go_at_call 15; refine (args_no _ _ _ _ _ _ _ _ p _ _ k c7 j c8 _ (by omega) (by omega) (by omega) hno).mono ?_; rintro e w' ⟨rfl, hb⟩)
            all_goals (go_ret; exact ⟨rfl, HB3.out.trans (hb.mono HB3.out.size)⟩)
          · go_wp2_with (go_at_call 15; refine (args_yes _ _ _ _ _ _ _ _ p _ _ k c7 j c8 (dsV k) (asV j) _ (by omega) (by omega) (by omega) (by omega) (by omega) hc7 hc8 H9.out H8.out).mono ?_; rintro e w' ⟨A, c, rfl, hr, hb⟩)
            have HE : Hid (∀ i, i < p → (asV j ++ (dsV k).drop (k - (p - j)))[i]? = some (V.int (if i < j then (i : Int) else 1000 + (i : Int) - ((p : Int) - (k : Int))))) := args_elem p k j hd (by omega) (by omega)
            have HR := Lib.hid hr
            have HB4 : Hid (Below w.heap.size w w') := HB3.out.trans (hb.mono HB3.out.size)
            clear hr hb H8 H9 HB3 HB1
            go_loopg [98] p (fun gk i wx => ∃ m : Nat, m ≤ p ∧ gk = p - m ∧ i = .int .i64 m ∧ Below w'.heap.size w' wx)
            case atStart => exact ⟨0, Nat.zero_le _, rfl, rfl, Below.refl _ _⟩
            case round =>
              obtain ⟨m, hm, hgk, rfl, hb⟩ := hrel
              have HG := Lib.hid hgk
              have HB5 := Lib.hid hb
              by_cases hlt : m < p
              · obtain ⟨b, o, v, rfl, hbl, hv, e0, e1, e2⟩ := RdV.at_ (HR.out.below hb) hlt
                rw [HE.out m hlt] at hv
                injection hv with hv
                subst hv
                clear hgk hb
                by_cases hmj : m < j
                · have q1 : decide (j ≤ m) = false := by simp; omega
                  rw [if_pos hmj] at e0 e1 e2
                  unfold V.int at e0 e1 e2
                  simp only at e0 e1 e2
                  go_wp2
                  go_roundg (p - (m + 1))
                  case rel => exact ⟨m + 1, by omega, rfl, by go_num, below_alloc HB5.out _⟩
                  case measure => have := HG.out; omega
                · have q1 : decide (j ≤ m) = true := by simp; omega
                  rw [if_neg hmj] at e0 e1 e2
                  unfold V.int at e0 e1 e2
                  simp only at e0 e1 e2
                  go_wp2
                  go_roundg (p - (m + 1))
                  case rel => exact ⟨m + 1, by omega, rfl, by go_num, below_alloc HB5.out _⟩
                  case measure => have := HG.out; omega
              · clear hgk hb
                go_wp2
                go_ret
                exact ⟨rfl, HB4.out.trans (HB5.out.mono HB4.out.size)⟩

theorem frameArgs_guard (a0 a1 a2 : Int) (w0 : (Lit.int .i64 a0).wf = true) (w1 : (Lit.int .i64 a1).wf = true) (w2 : (Lit.int .i64 a2).wf = true) (w : World) :
    Calls Try.prog 3 #[.int .i64 a0, .int .i64 a1, .int .i64 a2] w fun e w' => e = .returned (.bool true) ∧ Below w.heap.size w w' := by
  by_cases h1 : a0 < 0
  · have t1 : decide (a0 < 0) = true := by simpa using h1
    go_enter Try.func3, Try.ntmps3
    go_wp2_with (go_at_call 13; refine (goes20 w).mono ?_; rintro e w1 ⟨rfl, hb1⟩)
    go_ret
    exact ⟨rfl, hb1⟩
  have t1 : decide (a0 < 0) = false := by simpa using h1
  by_cases h2 : 50 < a0
  · have t2 : decide (50 < a0) = true := by simpa using h2
    go_enter Try.func3, Try.ntmps3
    go_wp2_with (go_at_call 13; refine (goes20 w).mono ?_; rintro e w1 ⟨rfl, hb1⟩)
    go_ret
    exact ⟨rfl, hb1⟩
  have t2 : decide (50 < a0) = false := by simpa using h2
  by_cases h3 : a1 < 0
  · have t3 : decide (a1 < 0) = true := by simpa using h3
    go_enter Try.func3, Try.ntmps3
    go_wp2_with (go_at_call 13; refine (goes20 w).mono ?_; rintro e w1 ⟨rfl, hb1⟩)
    go_ret
    exact ⟨rfl, hb1⟩
  have t3 : decide (a1 < 0) = false := by simpa using h3
  by_cases h4 : a0 < a1
  · have t4 : decide (a0 < a1) = true := by simpa using h4
    go_enter Try.func3, Try.ntmps3
    go_wp2_with (go_at_call 13; refine (goes20 w).mono ?_; rintro e w1 ⟨rfl, hb1⟩)
    go_ret
    exact ⟨rfl, hb1⟩
  have t4 : decide (a0 < a1) = false := by simpa using h4
  by_cases h5 : a2 < 0
  · have t5 : decide (a2 < 0) = true := by simpa using h5
    go_enter Try.func3, Try.ntmps3
    go_wp2_with (go_at_call 13; refine (goes20 w).mono ?_; rintro e w1 ⟨rfl, hb1⟩)
    go_ret
    exact ⟨rfl, hb1⟩
  have t5 : decide (a2 < 0) = false := by simpa using h5
  by_cases h6 : 60 < a2
  · have t6 : decide (60 < a2) = true := by simpa using h6
    go_enter Try.func3, Try.ntmps3
    go_wp2_with (go_at_call 13; refine (goes20 w).mono ?_; rintro e w1 ⟨rfl, hb1⟩)
    go_ret
    exact ⟨rfl, hb1⟩
  obtain ⟨p, rfl⟩ := Int.eq_ofNat_of_zero_le (by omega : 0 ≤ a0)
  obtain ⟨d, rfl⟩ := Int.eq_ofNat_of_zero_le (by omega : 0 ≤ a1)
  obtain ⟨a, rfl⟩ := Int.eq_ofNat_of_zero_le (by omega : 0 ≤ a2)
  exact frameArgs_walk p d a (by omega) (by omega) (by omega) w
end Go.Proofs.Ytpcamgjfikipgaa
namespace Go.Proofs.Ytpcamgjfikipgaa.frameArgs
open Go.ChangeShapes Go.WideShapes Go.ChangeAt Go.RowKit
set_option linter.unusedVariables false      -- a walk need not use every 'w<i>' (that an integer argument fits its kind)

theorem laidOut : laidOutB Try.prog = true := by kernel_rfl
theorem own : ownKnob Try.prog.godebug = none := by kernel_rfl

/-! ### THE ROW's STEP: WRITTEN OUT: LEAVE IT -/
set_option maxRecDepth 100000 in
theorem lifted (os : Os) (started : os.Started) (H : Type) (enc : TypeId × Value → H) :
    ReturnsInHanded {} Try.checked os 3 .any (Rows.frameArgsSpec.pre6 enc Try.prog Try.f3 Rows.frameArgsRow.domain false) (Rows.frameArgsSpec.post enc Try.prog Try.f3 false true false false) := by
  refine returnsInHanded_of_change (C := Try.checked) own started (by kernel_rfl) Try.func3
    (ChangeSpec.witness6 (enc := enc) (C := Try.checked) false ⟨#[], #[.int .i64 0, .int .i64 0, .int .i64 0], []⟩ 8 (by kernel_rfl) (by kernel_rfl) (by kernel_rfl) (by kernel_rfl)) ?_
  intro W base args ds gs before hval0 hW hcnd _
  have hval : ∀ (j : Nat) t v, Try.f3.params[j]? = some t → args[j]? = some v → Value.okWide Try.prog W .any base t v := hval0
  have hW' := hW
  obtain ⟨p, q, hA0, hV, rfl, hfz, hnd⟩ := hW
  have hA : DataW.TrodAll enc Try.prog W 0 (fun _ => true) true Try.f3.params.toList args.toList ds p := hA0
  rw [Try.params3] at hA hval
  obtain ⟨v0, vs0, d0, ds0, p0, q0, hargs, rfl, rfl, h0, r0⟩ := trodAll_cons hA
  obtain ⟨v1, vs1, d1, ds1, p1, q1, rfl, rfl, rfl, h1, r1⟩ := trodAll_cons r0
  obtain ⟨v2, vs2, d2, ds2, p2, q2, rfl, rfl, rfl, h2, r2⟩ := trodAll_cons r1
  obtain ⟨rfl, rfl, rfl⟩ := trodAll_nil r2
  obtain rfl : args = #[v0, v1, v2] := by cases args; simp_all
  obtain ⟨rfl, rfl⟩ := trodVars_none hV
  obtain ⟨a0, rfl, rfl, rfl, w0⟩ := open_int Try.underlying3 (hval 0 3 v0 rfl rfl) h0
  obtain ⟨a1, rfl, rfl, rfl, w1⟩ := open_int Try.underlying3 (hval 1 3 v1 rfl rfl) h1
  obtain ⟨a2, rfl, rfl, rfl, w2⟩ := open_int Try.underlying3 (hval 2 3 v2 rfl rfl) h2
  clear hA0 hval0
  simp only [List.append_nil] at hW'
  refine (frameArgs_guard a0 a1 a2 w0 w1 w2 W).mono fun e W' ⟨he, bel⟩ => ?_
  subst he
  exact ⟨_, rfl, _, _, _, [], _, [], hW', trodAll_mk1 (shut_bool Try.underlying4 _), (trodAll_cons_mk (shut_int Try.underlying3 w0) (trodAll_cons_mk (shut_int Try.underlying3 w1) (trodAll_cons_mk (shut_int Try.underlying3 w2) trodAll_mk0))), rfl, bel.frame _, fun h => by cases h⟩

theorem over : Rows.frameArgsRow.holds Try.pinned (OpenSpec.ofChange Rows.frameArgsSpec) :=
  OpenClaim.holds_of_wide 3 Try.f3 rfl rfl rfl rfl rfl rfl rfl ⟨rfl, rfl, rfl, rfl, rfl⟩ rfl rfl rfl rfl rfl (by kernel_rfl) Try.func3 (by kernel_rfl)
    (of_decide_eq_true (by kernel_rfl)) (by unfold Func.isWrapper; first | (rw [if_pos (by decide +kernel)]; kernel_rfl) | (rw [if_neg (by decide +kernel)]; exact ⟨rfl, rfl⟩))
    (fun os started H enc _ => lifted os started H enc)

/-- ████ THE STATEMENT ████ -/
theorem proved : Rows.FrameArgsSaid :=
  over
#print axioms proved
end Go.Proofs.Ytpcamgjfikipgaa.frameArgs
