/- api.Value as data, and the contracts of value.Int, Ref, Null, Str, frame.New and frame.Args. Conditions: sizes of no more than some thousands. -/
import Derived.Test.YtcjmoobdoinbkaaLib
import Derived.Outline
import Derived.RegionTactic
import Derived.BigRegion
import Derived.BigQuiet
import Derived.Deep.QuietTactic
import Derived.ChangeAlike
import Derived.IntWalk
import Derived.WalkSpells
namespace Go.Proofs.Ytcjmoobdoinbkaa
open Go.RowKit
set_option linter.unusedVariables false

/-- A value of the language: its kind, its number, its text. -/
structure V where
  k : Int
  n : Int
  s : ByteArray
def V.cs (v : V) : List Value := [.int .i64 v.k, .int .i64 v.n, .string v.s]
def V.agg (v : V) : Value := .agg #[.int .i64 v.k, .int .i64 v.n, .string v.s]
def V.null : V := ⟨0, 0, ⟨#[]⟩⟩
def V.int (n : Int) : V := ⟨2, n, ⟨#[]⟩⟩
def V.str (s : ByteArray) : V := ⟨3, 0, s⟩
def V.ref (n : Int) : V := ⟨4, n, ⟨#[]⟩⟩
/-- The cells of values one behind the other. -/
def vcs (vs : List V) : List Value := vs.flatMap V.cs
theorem vcs_nil : vcs [] = [] := rfl
theorem vcs_cons (v : V) (vs : List V) : vcs (v :: vs) = v.cs ++ vcs vs := rfl
theorem vcs_append (a b : List V) : vcs (a ++ b) = vcs a ++ vcs b := by simp [vcs]
theorem vcs_length (vs : List V) : (vcs vs).length = vs.length * 3 := by
  induction vs with
  | nil => rfl
  | cons v vs ih => rw [vcs_cons, List.length_append, ih]; simp [V.cs]; omega
theorem vcs_at {vs : List V} {i : Nat} {v : V} (h : vs[i]? = some v) : (vcs vs)[i * 3]? = some (.int .i64 v.k) ∧ (vcs vs)[i * 3 + 1]? = some (.int .i64 v.n) ∧ (vcs vs)[i * 3 + 2]? = some (.string v.s) := by
  induction vs generalizing i with
  | nil => simp at h
  | cons x vs ih =>
    rw [vcs_cons]
    cases i with
    | zero => simp at h; subst h; simp [V.cs]
    | succ i =>
      have := ih (i := i) (by simpa using h)
      have e : ∀ j, (x.cs ++ vcs vs)[(i + 1) * 3 + j]? = (vcs vs)[i * 3 + j]? := fun j => by
        rw [List.getElem?_append_right (by simp [V.cs]; omega)]
        simp only [V.cs, List.length_cons, List.length_nil]
        congr 1
        omega
      have e0 := e 0
      simp only [Nat.add_zero] at e0
      rw [e0, e 1, e 2]
      exact this
theorem vcs_drop (vs : List V) (k : Nat) : (vcs vs).drop (k * 3) = vcs (vs.drop k) := by
  induction vs generalizing k with
  | nil => simp [vcs]
  | cons x vs ih =>
    cases k with
    | zero => simp
    | succ k =>
      rw [vcs_cons, List.drop_succ_cons, ← ih k, List.drop_append]
      have h1 : (k + 1) * 3 - x.cs.length = k * 3 := by simp [V.cs]; omega
      have h2 : x.cs.drop ((k + 1) * 3) = [] := by apply List.drop_eq_nil_of_le; simp [V.cs]; omega
      rw [h1, h2, List.nil_append]
theorem vcs_take (vs : List V) (k : Nat) : (vcs vs).take (k * 3) = vcs (vs.take k) := by
  induction vs generalizing k with
  | nil => simp [vcs]
  | cons x vs ih =>
    cases k with
    | zero => simp [vcs]
    | succ k =>
      rw [vcs_cons, List.take_succ_cons, vcs_cons, ← ih k, List.take_append]
      have h1 : (k + 1) * 3 - x.cs.length = k * 3 := by simp [V.cs]; omega
      have h2 : x.cs.take ((k + 1) * 3) = x.cs := by apply List.take_of_length_le; simp [V.cs]; omega
      rw [h1, h2]
theorem vcs_one (vs : List V) : ∀ u ∈ vcs vs, u.oneCell' = true := by
  intro u hu
  obtain ⟨v, _, hv⟩ := List.mem_flatMap.1 hu
  simp [V.cs] at hv
  rcases hv with rfl | rfl | rfl <;> rfl
/-- A slice of values. -/
abbrev RdV (w : World) (A : Option Addr) (n : Nat) (vs : List V) : Prop := Rd w A n 3 (vcs vs)
theorem RdV.len {w : World} {A : Option Addr} {n : Nat} {vs : List V} (h : RdV w A n vs) : vs.length = n := by
  have := h.1
  rw [vcs_length] at this
  omega
/-- The cells of element i. -/
theorem RdV.at_ {w : World} {A : Option Addr} {n : Nat} {vs : List V} (h : RdV w A n vs) {i : Nat} (hi : i < n) :
    ∃ b o v, A = some ⟨b, o, none⟩ ∧ b < w.heap.size ∧ vs[i]? = some v ∧ w.cell? ⟨b, o + i * 3, none⟩ = some (.int .i64 v.k) ∧ w.cell? ⟨b, o + i * 3 + 1, none⟩ = some (.int .i64 v.n) ∧ w.cell? ⟨b, o + i * 3 + 2, none⟩ = some (.string v.s) := by
  have hl := h.len
  have hv : vs[i]? = some (vs[i]'(by omega)) := List.getElem?_eq_getElem (by omega)
  obtain ⟨ad, rfl, hc⟩ := h.2 (fun e => by have := vcs_length vs; rw [e] at this; simp at this; omega)
  obtain ⟨h0, h1, h2⟩ := vcs_at hv
  have c0 := hc _ _ (vcs_at (i := 0) (List.getElem?_eq_getElem (by omega))).1
  obtain ⟨b, o, sp⟩ := ad
  have hsp : sp = none := by simpa [Addr.add] using World.cell?_spot c0
  subst hsp
  refine ⟨b, o, _, rfl, by simpa [Addr.add] using World.block_lt_of_cell? w _ c0, hv, ?_, ?_, ?_⟩
  · have := hc _ _ h0; rwa [add_lit] at this
  · have := hc _ _ h1; rwa [add_lit, ← Nat.add_assoc] at this
  · have := hc _ _ h2; rwa [add_lit, ← Nat.add_assoc] at this

set_option maxRecDepth 100000 in
theorem info50 : (Try.prog.info? 50).map (fun i => (i.zero, i.size, i.bytes)) = some (some (.agg #[.int .i64 0, .int .i64 0, .string ⟨#[]⟩]), 3, 32) := by kernel_rfl

theorem int_any (n : Int) (w : World) : Calls Try.prog 61 #[.int .i64 n] w fun e w' => e = .returned (V.int n).agg ∧ w' = w.alloc (.cells #[.int .i64 2, .int .i64 n, .string ⟨#[]⟩] 50) := by
  go_enter Try.func61, Try.ntmps61
  go_wp2
  exact bodyPost_ret (v := (V.int n).agg) (by simp [results, Try.results61, go_sem, V.int, V.agg]) rfl ⟨rfl, rfl⟩
theorem null_any (w : World) : Calls Try.prog 62 #[] w fun e w' => e = .returned V.null.agg ∧ w' = w.alloc (.cells #[.int .i64 0, .int .i64 0, .string ⟨#[]⟩] 50) := by
  go_enter Try.func62, Try.ntmps62
  go_wp2
  exact bodyPost_ret (v := V.null.agg) (by simp [results, Try.results62, go_sem, V.null, V.agg]) rfl ⟨rfl, rfl⟩
theorem str_any (s : ByteArray) (w : World) : Calls Try.prog 43 #[.string s] w fun e w' => e = .returned (V.str s).agg ∧ w' = w.alloc (.cells #[.int .i64 3, .int .i64 0, .string s] 50) := by
  go_enter Try.func43, Try.ntmps43
  go_wp2
  exact bodyPost_ret (v := (V.str s).agg) (by simp [results, Try.results43, go_sem, V.str, V.agg]) rfl ⟨rfl, rfl⟩

theorem below_alloc {w w1 : World} (h : Below w.heap.size w w1) (o : Obj) : Below w.heap.size w (w1.alloc o) := h.alloc h.size o
/-- A slice of values that the call made. -/
def OwnV (w : World) (base : Nat) (v : Value) (vs : List V) : Prop := w.ownsRow base 50 3 v vs.length (vcs vs)
theorem OwnV.rd {w : World} {base : Nat} {v : Value} {vs : List V} (h : OwnV w base v vs) : ∃ A c, v = .slice A vs.length c ∧ vs.length ≤ c ∧ RdV w A vs.length vs := by
  rcases h.2 with ⟨rfl, h0⟩ | ⟨g, cap, cur, rfl, _, _, hn, _⟩
  · have e : vs = [] := List.eq_nil_of_length_eq_zero h0
    subst e
    exact ⟨_, _, rfl, Nat.le_refl _, Rd.nil _ _ _⟩
  · exact ⟨_, _, rfl, hn, Rd.of_own h⟩
theorem OwnV.kp {S : Nat → Prop} {w w' : World} {base : Nat} {v : Value} {vs : List V} (h : OwnV w base v vs) (k : Kp S w w') (hn : ∀ g, v.ownBlock = some g → ¬ S g) : OwnV w' base v vs := by
  refine ⟨h.1, ?_⟩
  rcases h.2 with h0 | ⟨g, cap, cur, rfl, hb, hg, rest⟩
  · exact .inl h0
  · exact .inr ⟨g, cap, cur, rfl, hb, (k.block g (Array.getElem?_eq_some_iff.1 hg).1 (hn g rfl)).trans hg, rest⟩
theorem OwnV.below {w w' : World} {base : Nat} {v : Value} {vs : List V} (h : OwnV w base v vs) (k : Below w.heap.size w w') : OwnV w' base v vs := h.kp (S := fun _ => False) (Kp.of_below k) (fun _ _ => id)
theorem OwnV.mono {w : World} {base base' : Nat} {v : Value} {vs : List V} (h : OwnV w base v vs) (hb : base' ≤ base) : OwnV w base' v vs := by
  refine ⟨h.1, ?_⟩
  rcases h.2 with h0 | ⟨g, cap, cur, rfl, hg, rest⟩
  · exact .inl h0
  · exact .inr ⟨g, cap, cur, rfl, by omega, rest⟩
theorem OwnV.lo {w : World} {base : Nat} {v : Value} {vs : List V} (h : OwnV w base v vs) {g : Nat} (hg : v.ownBlock = some g) : base ≤ g ∧ g < w.heap.size := World.ownsRow.lt h g hg

theorem run_eql_sl_nil {P : Program} (w : World) (t e : TypeId) (a : Option Addr) (n c n' c' : Nat) (h : P.underlying t = some (.slice e)) :
    (binOp .eql t (.slice a n c) (.slice none n' c')).run P w = .ok (.bool a.isNone) w := by
  simp only [binOp]
  simp [Op.equal, Op.maxDepth, Lib.run_equalIn_slice_nil w 9999 t e a n c n' c' h]
/-- What slices.Clone leaves. -/
def Cloned (w : World) (vs : List V) (e : Ending) (w' : World) : Prop := ∃ v, e = .returned v ∧ OwnV w' w.heap.size v vs ∧ Below w.heap.size w w'
set_option maxRecDepth 100000 in
theorem clone_any {w : World} {A : Option Addr} {n c : Nat} {vs : List V} (hv : RdV w A n vs) (hn : n ≤ 100000) : Calls Try.prog 65 #[.slice A n c] w (Cloned w vs) := by
  obtain ⟨i0, hi, hz0, hz1, hz2⟩ := info_parts info50
  have HV := Lib.hid hv
  have hl := hv.len
  have HL := Lib.hid hl
  clear hv hl
  cases A with
  | none =>
    obtain rfl : n = 0 := by
      rcases Nat.eq_zero_or_pos n with h0 | h0
      · exact h0
      · obtain ⟨b, o, v, e, _⟩ := RdV.at_ HV.out h0
        cases e
    have he := fun W => run_eql_sl_nil (P := Try.prog) W 61 50 none 0 c 0 0 Try.underlying61
    go_enter Try.func65, Try.ntmps65
    go_wp2
    go_ret
    have hvs : vs = [] := List.eq_nil_of_length_eq_zero HL.out
    subst hvs
    exact ⟨_, rfl, World.ownsRow_nil _ _ _ _, Below.refl _ _⟩
  | some ad =>
    have he := fun W => run_eql_sl_nil (P := Try.prog) W 61 50 (some ad) n c 0 0 Try.underlying61
    go_enter Try.func65, Try.ntmps65
    go_wp2_with (at_builtin; refine wpList_append_rd rfl w.heap.size (.tmp 5) (.tmp 6) 61 rfl 50 i0 _ 3 32 Try.underlying61 hi hz0 hz1 hz2 rfl (by omega) (.slice (some ⟨w.heap.size, 0, none⟩) 0 0) 0 [] (by rfl) (by exact World.ownsRow_made w #[] 0 (Nat.le_refl _) (by unfold maxLen; omega) rfl) (some ad) n c (vcs vs) (by rfl) (by exact HV.out.alloc _) (vcs_one _) (by unfold maxLen; omega) (by omega) (by simp) ?_; intro v1 w1 hown1 hg1 hat1; have R := Lib.hid (And.intro hown1 hg1); clear hown1 hg1 hat1)
    go_ret
    obtain ⟨hown, hg⟩ := R.out
    refine ⟨v1, rfl, ?_, ?_⟩
    · rw [Nat.zero_add, List.nil_append] at hown
      unfold OwnV
      rw [HL.out]
      exact hown
    · exact (below_alloc (Below.refl _ _) _).grown hg (by simp) (fun k hk => by simp [Value.ownBlock] at hk; omega)

end Go.Proofs.Ytcjmoobdoinbkaa
