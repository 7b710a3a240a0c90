/- api.Value as data, and the contracts of value.Int, Ref, Null, Str, frame.New and frame.Args. Conditions: sizes of no more than some thousands. -/
import Derived.Test.YtecoghabjcnbnaaLib
import Derived.Outline
import Derived.RegionTactic
import Derived.BigRegion
import Derived.BigQuiet
import Derived.Deep.QuietTactic
import Derived.ChangeAlike
import Derived.IntWalk
namespace Go.Proofs.Ytecoghabjcnbnaa
open Go.RowKit
set_option linter.unusedVariables false

/-- A value of the language: its kind, its number, its text. -/
structure V where
  k : Int
  n : Int
  s : ByteArray
def V.cs (v : V) : List Value := [.int .i64 v.k, .int .i64 v.n, .string v.s]
def V.agg (v : V) : Value := .agg #[.int .i64 v.k, .int .i64 v.n, .string v.s]
def V.null : V := ⟨0, 0, ⟨#[]⟩⟩
def V.int (n : Int) : V := ⟨2, n, ⟨#[]⟩⟩
def V.str (s : ByteArray) : V := ⟨3, 0, s⟩
def V.ref (n : Int) : V := ⟨4, n, ⟨#[]⟩⟩
/-- The cells of values one behind the other. -/
def vcs (vs : List V) : List Value := vs.flatMap V.cs
theorem vcs_nil : vcs [] = [] := rfl
theorem vcs_cons (v : V) (vs : List V) : vcs (v :: vs) = v.cs ++ vcs vs := rfl
theorem vcs_append (a b : List V) : vcs (a ++ b) = vcs a ++ vcs b := by simp [vcs]
theorem vcs_length (vs : List V) : (vcs vs).length = vs.length * 3 := by
  induction vs with
  | nil => rfl
  | cons v vs ih => rw [vcs_cons, List.length_append, ih]; simp [V.cs]; omega
theorem vcs_at {vs : List V} {i : Nat} {v : V} (h : vs[i]? = some v) : (vcs vs)[i * 3]? = some (.int .i64 v.k) ∧ (vcs vs)[i * 3 + 1]? = some (.int .i64 v.n) ∧ (vcs vs)[i * 3 + 2]? = some (.string v.s) := by
  induction vs generalizing i with
  | nil => simp at h
  | cons x vs ih =>
    rw [vcs_cons]
    cases i with
    | zero => simp at h; subst h; simp [V.cs]
    | succ i =>
      have := ih (i := i) (by simpa using h)
      have e : ∀ j, (x.cs ++ vcs vs)[(i + 1) * 3 + j]? = (vcs vs)[i * 3 + j]? := fun j => by
        rw [List.getElem?_append_right (by simp [V.cs]; omega)]
        simp only [V.cs, List.length_cons, List.length_nil]
        congr 1
        omega
      have e0 := e 0
      simp only [Nat.add_zero] at e0
      rw [e0, e 1, e 2]
      exact this
theorem vcs_drop (vs : List V) (k : Nat) : (vcs vs).drop (k * 3) = vcs (vs.drop k) := by
  induction vs generalizing k with
  | nil => simp [vcs]
  | cons x vs ih =>
    cases k with
    | zero => simp
    | succ k =>
      rw [vcs_cons, List.drop_succ_cons, ← ih k, List.drop_append]
      have h1 : (k + 1) * 3 - x.cs.length = k * 3 := by simp [V.cs]; omega
      have h2 : x.cs.drop ((k + 1) * 3) = [] := by apply List.drop_eq_nil_of_le; simp [V.cs]; omega
      rw [h1, h2, List.nil_append]
theorem vcs_take (vs : List V) (k : Nat) : (vcs vs).take (k * 3) = vcs (vs.take k) := by
  induction vs generalizing k with
  | nil => simp [vcs]
  | cons x vs ih =>
    cases k with
    | zero => simp [vcs]
    | succ k =>
      rw [vcs_cons, List.take_succ_cons, vcs_cons, ← ih k, List.take_append]
      have h1 : (k + 1) * 3 - x.cs.length = k * 3 := by simp [V.cs]; omega
      have h2 : x.cs.take ((k + 1) * 3) = x.cs := by apply List.take_of_length_le; simp [V.cs]; omega
      rw [h1, h2]
theorem vcs_one (vs : List V) : ∀ u ∈ vcs vs, u.oneCell' = true := by
  intro u hu
  obtain ⟨v, _, hv⟩ := List.mem_flatMap.1 hu
  simp [V.cs] at hv
  rcases hv with rfl | rfl | rfl <;> rfl
/-- A slice of values. -/
abbrev RdV (w : World) (A : Option Addr) (n : Nat) (vs : List V) : Prop := Rd w A n 3 (vcs vs)
theorem RdV.len {w : World} {A : Option Addr} {n : Nat} {vs : List V} (h : RdV w A n vs) : vs.length = n := by
  have := h.1
  rw [vcs_length] at this
  omega
/-- The cells of element i. -/
theorem RdV.at_ {w : World} {A : Option Addr} {n : Nat} {vs : List V} (h : RdV w A n vs) {i : Nat} (hi : i < n) :
    ∃ b o v, A = some ⟨b, o, none⟩ ∧ b < w.heap.size ∧ vs[i]? = some v ∧ w.cell? ⟨b, o + i * 3, none⟩ = some (.int .i64 v.k) ∧ w.cell? ⟨b, o + i * 3 + 1, none⟩ = some (.int .i64 v.n) ∧ w.cell? ⟨b, o + i * 3 + 2, none⟩ = some (.string v.s) := by
  have hl := h.len
  have hv : vs[i]? = some (vs[i]'(by omega)) := List.getElem?_eq_getElem (by omega)
  obtain ⟨ad, rfl, hc⟩ := h.2 (fun e => by have := vcs_length vs; rw [e] at this; simp at this; omega)
  obtain ⟨h0, h1, h2⟩ := vcs_at hv
  have c0 := hc _ _ (vcs_at (i := 0) (List.getElem?_eq_getElem (by omega))).1
  obtain ⟨b, o, sp⟩ := ad
  have hsp : sp = none := by simpa [Addr.add] using World.cell?_spot c0
  subst hsp
  refine ⟨b, o, _, rfl, by simpa [Addr.add] using World.block_lt_of_cell? w _ c0, hv, ?_, ?_, ?_⟩
  · have := hc _ _ h0; rwa [add_lit] at this
  · have := hc _ _ h1; rwa [add_lit, ← Nat.add_assoc] at this
  · have := hc _ _ h2; rwa [add_lit, ← Nat.add_assoc] at this

set_option maxRecDepth 100000 in
theorem info26 : (Try.prog.info? 26).map (fun i => (i.zero, i.size, i.bytes)) = some (some (.agg #[.int .i64 0, .int .i64 0, .string ⟨#[]⟩]), 3, 32) := by kernel_rfl

theorem int_any (n : Int) (w : World) : Calls Try.prog 8 #[.int .i64 n] w fun e w' => e = .returned (V.int n).agg ∧ w' = w.alloc (.cells #[.int .i64 2, .int .i64 n, .string ⟨#[]⟩] 26) := by
  go_enter Try.func8, Try.ntmps8
  go_wp2
  exact bodyPost_ret (v := (V.int n).agg) (by simp [results, Try.results8, go_sem, V.int, V.agg]) rfl ⟨rfl, rfl⟩
theorem ref_any (n : Int) (w : World) : Calls Try.prog 21 #[.int .i64 n] w fun e w' => e = .returned (V.ref n).agg ∧ w' = w.alloc (.cells #[.int .i64 4, .int .i64 n, .string ⟨#[]⟩] 26) := by
  go_enter Try.func21, Try.ntmps21
  go_wp2
  exact bodyPost_ret (v := (V.ref n).agg) (by simp [results, Try.results21, go_sem, V.ref, V.agg]) rfl ⟨rfl, rfl⟩
theorem null_any (w : World) : Calls Try.prog 15 #[] w fun e w' => e = .returned V.null.agg ∧ w' = w.alloc (.cells #[.int .i64 0, .int .i64 0, .string ⟨#[]⟩] 26) := by
  go_enter Try.func15, Try.ntmps15
  go_wp2
  exact bodyPost_ret (v := V.null.agg) (by simp [results, Try.results15, go_sem, V.null, V.agg]) rfl ⟨rfl, rfl⟩
/-- The cells of a frame. -/
def fcs (fn : Int) (cl se : V) (rg : Value) (pc dst how : Int) (ex : V) (sort : Value) (gen : Int) : List Value :=
  [.int .i64 fn, .int .i64 cl.k, .int .i64 cl.n, .string cl.s, .int .i64 se.k, .int .i64 se.n, .string se.s, rg, .int .i64 pc, .int .i64 dst, .int .i64 how,
    .int .i64 ex.k, .int .i64 ex.n, .string ex.s, sort, .int .i64 gen]
end Go.Proofs.Ytecoghabjcnbnaa
