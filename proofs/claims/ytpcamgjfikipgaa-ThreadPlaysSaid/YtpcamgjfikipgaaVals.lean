/- api.Value as data, and the contracts of value.Int, Ref, Null, Str, frame.New and frame.Args. Conditions: sizes of no more than some thousands. -/
import Derived.Test.YtpcamgjfikipgaaLib
import Derived.Outline
import Derived.RegionTactic
import Derived.BigRegion
import Derived.BigQuiet
import Derived.Deep.QuietTactic
import Derived.ChangeAlike
import Derived.IntWalk
namespace Go.Proofs.Ytpcamgjfikipgaa
open Go.RowKit
set_option linter.unusedVariables false

/-- A value of the language: its kind, its number, its text. -/
structure V where
  k : Int
  n : Int
  s : ByteArray
def V.cs (v : V) : List Value := [.int .i64 v.k, .int .i64 v.n, .string v.s]
def V.agg (v : V) : Value := .agg #[.int .i64 v.k, .int .i64 v.n, .string v.s]
def V.null : V := ⟨0, 0, ⟨#[]⟩⟩
def V.int (n : Int) : V := ⟨2, n, ⟨#[]⟩⟩
def V.str (s : ByteArray) : V := ⟨3, 0, s⟩
def V.ref (n : Int) : V := ⟨4, n, ⟨#[]⟩⟩
/-- The cells of values one behind the other. -/
def vcs (vs : List V) : List Value := vs.flatMap V.cs
theorem vcs_nil : vcs [] = [] := rfl
theorem vcs_cons (v : V) (vs : List V) : vcs (v :: vs) = v.cs ++ vcs vs := rfl
theorem vcs_append (a b : List V) : vcs (a ++ b) = vcs a ++ vcs b := by simp [vcs]
theorem vcs_length (vs : List V) : (vcs vs).length = vs.length * 3 := by
  induction vs with
  | nil => rfl
  | cons v vs ih => rw [vcs_cons, List.length_append, ih]; simp [V.cs]; omega
theorem vcs_at {vs : List V} {i : Nat} {v : V} (h : vs[i]? = some v) : (vcs vs)[i * 3]? = some (.int .i64 v.k) ∧ (vcs vs)[i * 3 + 1]? = some (.int .i64 v.n) ∧ (vcs vs)[i * 3 + 2]? = some (.string v.s) := by
  induction vs generalizing i with
  | nil => simp at h
  | cons x vs ih =>
    rw [vcs_cons]
    cases i with
    | zero => simp at h; subst h; simp [V.cs]
    | succ i =>
      have := ih (i := i) (by simpa using h)
      have e : ∀ j, (x.cs ++ vcs vs)[(i + 1) * 3 + j]? = (vcs vs)[i * 3 + j]? := fun j => by
        rw [List.getElem?_append_right (by simp [V.cs]; omega)]
        simp only [V.cs, List.length_cons, List.length_nil]
        congr 1
        omega
      have e0 := e 0
      simp only [Nat.add_zero] at e0
      rw [e0, e 1, e 2]
      exact this
theorem vcs_drop (vs : List V) (k : Nat) : (vcs vs).drop (k * 3) = vcs (vs.drop k) := by
  induction vs generalizing k with
  | nil => simp [vcs]
  | cons x vs ih =>
    cases k with
    | zero => simp
    | succ k =>
      rw [vcs_cons, List.drop_succ_cons, ← ih k, List.drop_append]
      have h1 : (k + 1) * 3 - x.cs.length = k * 3 := by simp [V.cs]; omega
      have h2 : x.cs.drop ((k + 1) * 3) = [] := by apply List.drop_eq_nil_of_le; simp [V.cs]; omega
      rw [h1, h2, List.nil_append]
theorem vcs_take (vs : List V) (k : Nat) : (vcs vs).take (k * 3) = vcs (vs.take k) := by
  induction vs generalizing k with
  | nil => simp [vcs]
  | cons x vs ih =>
    cases k with
    | zero => simp [vcs]
    | succ k =>
      rw [vcs_cons, List.take_succ_cons, vcs_cons, ← ih k, List.take_append]
      have h1 : (k + 1) * 3 - x.cs.length = k * 3 := by simp [V.cs]; omega
      have h2 : x.cs.take ((k + 1) * 3) = x.cs := by apply List.take_of_length_le; simp [V.cs]; omega
      rw [h1, h2]
theorem vcs_one (vs : List V) : ∀ u ∈ vcs vs, u.oneCell' = true := by
  intro u hu
  obtain ⟨v, _, hv⟩ := List.mem_flatMap.1 hu
  simp [V.cs] at hv
  rcases hv with rfl | rfl | rfl <;> rfl
/-- A slice of values. -/
abbrev RdV (w : World) (A : Option Addr) (n : Nat) (vs : List V) : Prop := Rd w A n 3 (vcs vs)
theorem RdV.len {w : World} {A : Option Addr} {n : Nat} {vs : List V} (h : RdV w A n vs) : vs.length = n := by
  have := h.1
  rw [vcs_length] at this
  omega
/-- The cells of element i. -/
theorem RdV.at_ {w : World} {A : Option Addr} {n : Nat} {vs : List V} (h : RdV w A n vs) {i : Nat} (hi : i < n) :
    ∃ b o v, A = some ⟨b, o, none⟩ ∧ b < w.heap.size ∧ vs[i]? = some v ∧ w.cell? ⟨b, o + i * 3, none⟩ = some (.int .i64 v.k) ∧ w.cell? ⟨b, o + i * 3 + 1, none⟩ = some (.int .i64 v.n) ∧ w.cell? ⟨b, o + i * 3 + 2, none⟩ = some (.string v.s) := by
  have hl := h.len
  have hv : vs[i]? = some (vs[i]'(by omega)) := List.getElem?_eq_getElem (by omega)
  obtain ⟨ad, rfl, hc⟩ := h.2 (fun e => by have := vcs_length vs; rw [e] at this; simp at this; omega)
  obtain ⟨h0, h1, h2⟩ := vcs_at hv
  have c0 := hc _ _ (vcs_at (i := 0) (List.getElem?_eq_getElem (by omega))).1
  obtain ⟨b, o, sp⟩ := ad
  have hsp : sp = none := by simpa [Addr.add] using World.cell?_spot c0
  subst hsp
  refine ⟨b, o, _, rfl, by simpa [Addr.add] using World.block_lt_of_cell? w _ c0, hv, ?_, ?_, ?_⟩
  · have := hc _ _ h0; rwa [add_lit] at this
  · have := hc _ _ h1; rwa [add_lit, ← Nat.add_assoc] at this
  · have := hc _ _ h2; rwa [add_lit, ← Nat.add_assoc] at this

set_option maxRecDepth 100000 in
theorem info25 : (Try.prog.info? 25).map (fun i => (i.zero, i.size, i.bytes)) = some (some (.agg #[.int .i64 0, .int .i64 0, .string ⟨#[]⟩]), 3, 32) := by kernel_rfl

theorem int_any (n : Int) (w : World) : Calls Try.prog 14 #[.int .i64 n] w fun e w' => e = .returned (V.int n).agg ∧ w' = w.alloc (.cells #[.int .i64 2, .int .i64 n, .string ⟨#[]⟩] 25) := by
  go_enter Try.func14, Try.ntmps14
  go_wp2
  exact bodyPost_ret (v := (V.int n).agg) (by simp [results, Try.results14, go_sem, V.int, V.agg]) rfl ⟨rfl, rfl⟩
theorem ref_any (n : Int) (w : World) : Calls Try.prog 17 #[.int .i64 n] w fun e w' => e = .returned (V.ref n).agg ∧ w' = w.alloc (.cells #[.int .i64 4, .int .i64 n, .string ⟨#[]⟩] 25) := by
  go_enter Try.func17, Try.ntmps17
  go_wp2
  exact bodyPost_ret (v := (V.ref n).agg) (by simp [results, Try.results17, go_sem, V.ref, V.agg]) rfl ⟨rfl, rfl⟩
theorem null_any (w : World) : Calls Try.prog 18 #[] w fun e w' => e = .returned V.null.agg ∧ w' = w.alloc (.cells #[.int .i64 0, .int .i64 0, .string ⟨#[]⟩] 25) := by
  go_enter Try.func18, Try.ntmps18
  go_wp2
  exact bodyPost_ret (v := V.null.agg) (by simp [results, Try.results18, go_sem, V.null, V.agg]) rfl ⟨rfl, rfl⟩
theorem str_any (s : ByteArray) (w : World) : Calls Try.prog 19 #[.string s] w fun e w' => e = .returned (V.str s).agg ∧ w' = w.alloc (.cells #[.int .i64 3, .int .i64 0, .string s] 25) := by
  go_enter Try.func19, Try.ntmps19
  go_wp2
  exact bodyPost_ret (v := (V.str s).agg) (by simp [results, Try.results19, go_sem, V.str, V.agg]) rfl ⟨rfl, rfl⟩

/-- The cells of a frame. -/
def fcs (fn : Int) (cl se : V) (rg : Value) (pc dst how : Int) (ex : V) (sort : Value) (gen : Int) : List Value :=
  [.int .i64 fn, .int .i64 cl.k, .int .i64 cl.n, .string cl.s, .int .i64 se.k, .int .i64 se.n, .string se.s, rg, .int .i64 pc, .int .i64 dst, .int .i64 how,
    .int .i64 ex.k, .int .i64 ex.n, .string ex.s, sort, .int .i64 gen]
theorem madeCells_vcs (n : Nat) : madeCells (#[.int .i64 0, .int .i64 0, .string ⟨#[]⟩] : Array Value) (n * 3) = (vcs (List.replicate n V.null)).toArray := by
  apply Array.ext'
  apply List.ext_getElem?
  intro j
  by_cases hj : j < n * 3
  · have hq : (List.replicate n V.null)[j / 3]? = some V.null := by rw [List.getElem?_replicate]; rw [if_pos (by omega)]
    obtain ⟨h0, h1, h2⟩ := vcs_at hq
    have e : (madeCells (#[.int .i64 0, .int .i64 0, .string ⟨#[]⟩] : Array Value) (n * 3)).toList[j]? = some ((#[.int .i64 0, .int .i64 0, .string ⟨#[]⟩] : Array Value)[j % 3]!) := by simp [madeCells, hj]
    rw [e]
    have hm : j % 3 = 0 ∨ j % 3 = 1 ∨ j % 3 = 2 := by omega
    rcases hm with hm | hm | hm
    · rw [hm, show j = j / 3 * 3 from by omega]; exact h0.symm
    · rw [hm, show j = j / 3 * 3 + 1 from by omega]; exact h1.symm
    · rw [hm, show j = j / 3 * 3 + 2 from by omega]; exact h2.symm
  · rw [List.getElem?_eq_none (by simp [size_madeCells]; omega), List.getElem?_eq_none (by simp [vcs_length]; omega)]
/-- make([]api.Value, n). -/
theorem makeV (n : Nat) (hn : n ≤ 100000) (W : World) : (Instr.makeSlice 23 (.int .i64 (n : Int)) (.int .i64 (n : Int))).run Try.prog W = .ok (.slice (some ⟨W.heap.size, 0, none⟩) n n) (W.alloc (.cells (vcs (List.replicate n V.null)).toArray 25)) := by
  obtain ⟨i0, hi, hz0, hz1, hz2⟩ := info_parts info25
  have h := run_make_any (P := Try.prog) 23 25 i0 _ Try.underlying23 hi hz0 .i64 .i64 n (by rw [hz2]; omega) (by omega) W
  rw [hz1] at h
  exact h.trans (congrArg (fun c => Result.ok _ (W.alloc (.cells c 25))) (madeCells_vcs n))
/-- What frame.New leaves. -/
def Newed (w : World) (H : Nat) (fn : Int) (cl se : V) (regs : List V) (e : Ending) (w' : World) : Prop :=
  e = .returned (.pointer (some ⟨H + 4, 0, none⟩)) ∧ w'.heap.size = H + 5 ∧ Below w.heap.size w w' ∧ Blk w' (H + 3) 25 (vcs regs) ∧
    Blk w' (H + 4) 40 (fcs fn cl se (.slice (some ⟨H + 3, 0, none⟩) regs.length regs.length) 0 0 0 V.null (.pointer none) (-1))
set_option maxRecDepth 100000 in
theorem new_any (c0 c1 c3 c4 c5 c6 c7 c8 : Value) (regs : Nat) (ix : Int) (cl se : V) (A : Option Addr) (n c : Nat) (vs : List V) (w : World) (hr : regs ≤ 1000) (hn : n ≤ regs) (hv : RdV w A n vs) (H : Nat) (hH : w.heap.size = H) :
    Calls Try.prog 16 #[.agg #[c0, c1, .int .i64 regs, c3, c4, c5, c6, c7, c8], .int .i64 ix, cl.agg, se.agg, .slice A n c] w (Newed w H ix cl se (vs ++ List.replicate (regs - n) V.null)) := by
  subst hH
  obtain ⟨i0, hi, hz0, hz1, hz2⟩ := info_parts info25
  have hmk := fun W => makeV regs (by omega) W
  have hl := hv.len
  have HV := Lib.hid hv
  have HL := Lib.hid hl
  clear hv hl hz0 hz2
  obtain ⟨k1, n1, s1⟩ := cl
  obtain ⟨k2, n2, s2⟩ := se
  go_enter Try.func16, Try.ntmps16
  unfold V.agg
  go_wp2
  go_region
  go_wp2_with ((refine wpList_copy_rd rfl (.tmp 23) (.tmp 24) 23 23 rfl 25 i0 3 Try.underlying23 hi hz1 (w.heap.size + 1 + 1 + 1) regs regs (vcs (List.replicate regs V.null)) 25 (by exact ((Blk.made (by simp) _ _).alloc _).drew) A n c (vcs vs) (by rfl) (by rfl) (by exact (((((HV.out.alloc _).alloc _).alloc _).alloc _).alloc _).drew) hn (by rw [vcs_length, List.length_replicate]; omega) (vcs_one _) ?_; intro w5 h5; have H5 := Lib.hid h5; clear h5))
  go_ret
  have e : vcs vs ++ (vcs (List.replicate regs V.null)).drop (n * 3) = vcs (vs ++ List.replicate (regs - n) V.null) := by rw [vcs_drop, vcs_append, List.drop_replicate]
  rw [e] at H5
  have hlen : (vs ++ List.replicate (regs - n) V.null).length = regs := by rw [List.length_append, List.length_replicate, HL.out]; omega
  have h5 := H5.out
  refine ⟨rfl, ?_, ?_, ?_, ?_⟩
  · rw [h5]; simp [World.setRow]
  · rw [h5]
    refine ((Kp.refl (fun _ => False) w).alloc _ |>.alloc _ |>.alloc _ |>.alloc _ |>.alloc _ |>.drew |>.setRow (.inl (by omega)) _).below (fun _ _ h => h)
  · rw [h5]
    exact Blk.setRow (t := 25) (((Blk.made (by simp) _ (vcs (List.replicate regs V.null))).alloc _).drew) _
  · rw [h5, hlen]
    exact Blk.setRow_far (((Blk.made (by simp) 40 (fcs ix ⟨k1, n1, s1⟩ ⟨k2, n2, s2⟩ (.slice (some ⟨w.heap.size + 1 + 1 + 1, 0, none⟩) regs regs) 0 0 0 V.null (.pointer none) (-1)))).drew) (by omega) _
set_option maxRecDepth 100000 in
theorem args_no (c0 c1 c2 c4 c5 c6 c7 c8 : Value) (p : Nat) (A B : Option Addr) (nd cd na cb : Nat) (w : World) (hp : p ≤ 1000) (hd : nd ≤ 1000) (ha : na ≤ 1000) (h : p < na ∨ nd + na < p) :
    Calls Try.prog 15 #[.agg #[c0, c1, c2, .int .i64 p, c4, c5, c6, c7, c8], .slice A nd cd, .slice B na cb] w fun e w' => e = .returned (.tuple #[.slice none 0 0, .bool false]) ∧ Below w.heap.size w w' := by
  rcases h with h | h
  · have h1 : decide ((p : Int) - na < 0) = true := by simp; omega
    go_enter Try.func15, Try.ntmps15
    go_wp2
    go_ret2
    exact ⟨rfl, (Below.refl _ _).alloc (Nat.le_refl _) _⟩
  · have h1 : decide ((p : Int) - na < 0) = false := by simp; omega
    have h2 : decide ((nd : Int) < (p : Int) - na) = true := by simp; omega
    go_enter Try.func15, Try.ntmps15
    go_wp2
    go_ret2
    exact ⟨rfl, (Below.refl _ _).alloc (Nat.le_refl _) _⟩

/-- What frame.Args hands back where it is not refused. -/
def Argd (w : World) (p : Nat) (vs : List V) (e : Ending) (w' : World) : Prop :=
  ∃ A c, e = .returned (.tuple #[.slice A p c, .bool true]) ∧ RdV w' A p vs ∧ Below w.heap.size w w'
set_option maxRecDepth 100000 in
theorem args_yes (c0 c1 c2 c4 c5 c6 c7 c8 : Value) (p : Nat) (A B : Option Addr) (nd cd na cb : Nat) (ds vs : List V) (w : World) (hp : p ≤ 1000) (hd : nd ≤ 1000) (ha : na ≤ 1000) (h1 : na ≤ p) (h2 : p ≤ nd + na)
    (hcd : nd ≤ cd) (hcb : na ≤ cb) (hrd : RdV w A nd ds) (hra : RdV w B na vs) :
    Calls Try.prog 15 #[.agg #[c0, c1, c2, .int .i64 p, c4, c5, c6, c7, c8], .slice A nd cd, .slice B na cb] w (Argd w p (vs ++ ds.drop (nd - (p - na)))) := by
  obtain ⟨k, hk⟩ : ∃ k : Nat, k + (p - na) = nd := ⟨nd - (p - na), by omega⟩
  have h1' : decide ((p : Int) - na < 0) = false := by simp; omega
  have h2' : decide ((nd : Int) < (p : Int) - na) = false := by simp; omega
  have hkn : k ≤ nd := by omega
  have hw : IntKind.i64.wrap ((nd : Int) - ((p : Int) - (na : Int))) = (k : Int) := by rw [IntWalk.i64_in _ (by omega)]; omega
  obtain ⟨A2, hA2⟩ : ∃ A2, (if cd = k then A else Option.map (fun x => x.add (k * 3)) A) = A2 := ⟨_, rfl⟩
  have hpc : RdV w A2 (nd - k) (ds.drop k) := by
    have := hrd.piece (k := k) (m := nd - k) (by omega) A2 (fun hm => by rw [← hA2, if_neg (by omega)])
    rw [vcs_drop, vcs_take, List.take_of_length_le (by have := hrd.len; simp; omega)] at this
    exact this
  have HPC := Lib.hid hpc
  have HRA := Lib.hid hra
  have HE : Hid (na + (nd - k) = p ∧ nd - (p - na) = k) := ⟨by omega, by omega⟩
  clear hk hpc hra hrd
  obtain ⟨i0, hi, hz0, hz1, hz2⟩ := info_parts info25
  have HI := Lib.hid hi
  have HZ := Lib.hid (And.intro hz0 (And.intro hz1 hz2))
  clear hi hz0 hz1 hz2
  go_enter Try.func15, Try.ntmps15
  go_wp2
  go_region_law ((refine step_append_full rfl (.tmp 27) (.tmp 33) 23 rfl 25 i0 _ 3 32 Try.underlying23 HI.out HZ.out.1 HZ.out.2.1 HZ.out.2.2 rfl (by omega) B na (vcs vs) (by simp [Act.eval, Act.put]) (by exact (HRA.out.alloc _).drew) A2 (nd - k) (cd - k) (vcs (ds.drop k)) (by simp [Act.eval, Act.put]) (by exact (HPC.out.alloc _).drew) (by unfold maxLen; omega) (by omega) ?_; intro A3 c3 w3 hr3 hb3; have HR3 := Lib.hid hr3; have HB3 := Lib.hid hb3; clear hr3 hb3))
  go_wp2
  go_ret2
  have hr3 := HR3.out
  obtain ⟨e1, e2⟩ := HE.out
  rw [e1, ← vcs_append] at hr3
  refine ⟨A3, c3, by rw [e1]; rfl, by rw [e2]; exact hr3, ?_⟩
  exact ((Below.refl _ w).alloc (Nat.le_refl _) _).drew.trans (HB3.out.mono (by simp))
end Go.Proofs.Ytpcamgjfikipgaa
