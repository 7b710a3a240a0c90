/- What code.Catches answers: the first of a function's tries in which a step lies. Condition: no more than some thousands of tries. -/
import Derived.Test.YtpcamgjfikipgaaClones
import Derived.Deep.LoopGhost
namespace Go.Proofs.Ytpcamgjfikipgaa
open Go.RowKit
set_option linter.unusedVariables false
/-- A try: from which step up to which, where it goes on, and with which register. -/
structure TryD where
  fr : Int
  up : Int
  tg : Int
  rg : Int
def TryD.cs (t : TryD) : List Value := [.int .i64 t.fr, .int .i64 t.up, .int .i64 t.tg, .int .i64 t.rg]
def TryD.agg (t : TryD) : Value := .agg #[.int .i64 t.fr, .int .i64 t.up, .int .i64 t.tg, .int .i64 t.rg]
def TryD.zero : TryD := ⟨0, 0, 0, 0⟩
def tcs (ts : List TryD) : List Value := ts.flatMap TryD.cs
theorem tcs_length (ts : List TryD) : (tcs ts).length = ts.length * 4 := by
  induction ts with
  | nil => rfl
  | cons v vs ih => show (v.cs ++ tcs vs).length = _; rw [List.length_append, ih]; simp [TryD.cs]; omega
theorem tcs_at {ts : List TryD} {i : Nat} {t : TryD} (h : ts[i]? = some t) : (tcs ts)[i * 4]? = some (.int .i64 t.fr) ∧ (tcs ts)[i * 4 + 1]? = some (.int .i64 t.up) ∧ (tcs ts)[i * 4 + 2]? = some (.int .i64 t.tg) ∧ (tcs ts)[i * 4 + 3]? = some (.int .i64 t.rg) := by
  induction ts generalizing i with
  | nil => simp at h
  | cons x ts ih =>
    have hc : tcs (x :: ts) = x.cs ++ tcs ts := rfl
    rw [hc]
    cases i with
    | zero => simp at h; subst h; simp [TryD.cs]
    | succ i =>
      have := ih (i := i) (by simpa using h)
      have e : ∀ j, (x.cs ++ tcs ts)[(i + 1) * 4 + j]? = (tcs ts)[i * 4 + j]? := fun j => by
        rw [List.getElem?_append_right (by simp [TryD.cs]; omega)]
        simp only [TryD.cs, List.length_cons, List.length_nil]
        congr 1
        omega
      have e0 := e 0
      simp only [Nat.add_zero] at e0
      rw [e0, e 1, e 2, e 3]
      exact this
abbrev RdT (w : World) (A : Option Addr) (n : Nat) (ts : List TryD) : Prop := Rd w A n 4 (tcs ts)
theorem RdT.len {w : World} {A : Option Addr} {n : Nat} {ts : List TryD} (h : RdT w A n ts) : ts.length = n := by
  have := h.1
  rw [tcs_length] at this
  omega
theorem RdT.at_ {w : World} {A : Option Addr} {n : Nat} {ts : List TryD} (h : RdT w A n ts) {i : Nat} (hi : i < n) :
    ∃ b o t, A = some ⟨b, o, none⟩ ∧ b < w.heap.size ∧ ts[i]? = some t ∧ w.cell? ⟨b, o + i * 4, none⟩ = some (.int .i64 t.fr) ∧ w.cell? ⟨b, o + i * 4 + 1, none⟩ = some (.int .i64 t.up) ∧ w.cell? ⟨b, o + i * 4 + 2, none⟩ = some (.int .i64 t.tg) ∧ w.cell? ⟨b, o + i * 4 + 3, none⟩ = some (.int .i64 t.rg) := by
  have hl := h.len
  have hv : ts[i]? = some (ts[i]'(by omega)) := List.getElem?_eq_getElem (by omega)
  obtain ⟨ad, rfl, hc⟩ := h.2 (fun e => by have := tcs_length ts; rw [e] at this; simp at this; omega)
  obtain ⟨h0, h1, h2, h3⟩ := tcs_at hv
  have c0 := hc _ _ (tcs_at (i := 0) (List.getElem?_eq_getElem (by omega))).1
  obtain ⟨b, o, sp⟩ := ad
  have hsp : sp = none := by simpa [Addr.add] using World.cell?_spot c0
  subst hsp
  refine ⟨b, o, _, rfl, by simpa [Addr.add] using World.block_lt_of_cell? w _ c0, hv, ?_, ?_, ?_, ?_⟩
  · have := hc _ _ h0; rwa [add_lit] at this
  · have := hc _ _ h1; rwa [add_lit, ← Nat.add_assoc] at this
  · have := hc _ _ h2; rwa [add_lit, ← Nat.add_assoc] at this
  · have := hc _ _ h3; rwa [add_lit, ← Nat.add_assoc] at this
/-- Does a step lie in a try? -/
def TryD.has (t : TryD) (at_ : Int) : Bool := decide (t.fr ≤ at_) && decide (at_ < t.up)
/-- The first of them in which a step lies. -/
def first (ts : List TryD) (at_ : Int) : Option TryD := ts.find? (·.has at_)
/-- What Catches leaves. -/
def Caught (w : World) (r : Option TryD) (e : Ending) (w' : World) : Prop := e = .returned (.tuple #[(r.getD TryD.zero).agg, .bool r.isSome]) ∧ Below w.heap.size w w'
theorem first_none {ts : List TryD} {k : Nat} {at_ : Int} {t : TryD} (h : ts[k]? = some t) (h0 : first (ts.take k) at_ = none) (ht : t.has at_ = false) : first (ts.take (k + 1)) at_ = none := by
  have hlt : k < ts.length := (List.getElem?_eq_some_iff.1 h).1
  have e : ts[k] = t := (List.getElem?_eq_some_iff.1 h).2
  unfold first at *
  rw [List.take_succ_eq_append_getElem hlt, e, List.find?_append, h0]
  simp [ht]
theorem first_some {ts : List TryD} {k : Nat} {at_ : Int} {t : TryD} (h : ts[k]? = some t) (h0 : first (ts.take k) at_ = none) (ht : t.has at_ = true) : first ts at_ = some t := by
  have hlt : k < ts.length := (List.getElem?_eq_some_iff.1 h).1
  have e : ts[k] = t := (List.getElem?_eq_some_iff.1 h).2
  unfold first at *
  have hs : ts = ts.take k ++ (t :: ts.drop (k + 1)) := by rw [← e, ← List.drop_eq_getElem_cons hlt, List.take_append_drop]
  rw [hs, List.find?_append, h0]
  simp [ht]
set_option maxRecDepth 100000 in
set_option maxHeartbeats 1000000 in
theorem catches_any {w : World} (c0 c1 c2 c3 c4 c5 c7 c8 : Value) {T : Option Addr} {nt ct : Nat} {ts : List TryD} (at_ : Int) (ht : RdT w T nt ts) (hn : nt ≤ 100000) :
    Calls Try.prog 68 #[.agg #[c0, c1, c2, c3, c4, c5, .slice T nt ct, c7, c8], .int .i64 at_] w (Caught w (first ts at_)) := by
  have HT := Lib.hid ht
  clear ht
  go_enter Try.func68, Try.ntmps68
  go_wp2
  go_loopg [11] nt (fun gk i wr => ∃ k : Nat, k ≤ nt ∧ gk = nt - k ∧ i = .int .i64 k ∧ first (ts.take k) at_ = none ∧ Kp (fun _ => False) w wr ∧ Blk wr (w.heap.size + 1) 57 TryD.zero.cs)
  case atStart => exact ⟨0, Nat.zero_le _, rfl, rfl, rfl, ((Kp.refl _ w).alloc _).alloc _, Blk.made (by simp) 57 TryD.zero.cs⟩
  case round =>
    obtain ⟨k, hk, hgk, rfl, hf, hkp, hbl⟩ := hrel
    have HG := Lib.hid hgk
    have HF := Lib.hid hf
    have HK := Lib.hid hkp
    have HBL := Lib.hid hbl
    have hz := hbl.lt
    have z0 := hbl.frozen 0
    have z1 := hbl.frozen 1
    have z2 := hbl.frozen 2
    have z3 := hbl.frozen 3
    have y0 : wr.cell? ⟨w.heap.size + 1, 0, none⟩ = some (.int .i64 0) := hbl.cell rfl
    have y1 : wr.cell? ⟨w.heap.size + 1, 1, none⟩ = some (.int .i64 0) := hbl.cell rfl
    have y2 : wr.cell? ⟨w.heap.size + 1, 2, none⟩ = some (.int .i64 0) := hbl.cell rfl
    have y3 : wr.cell? ⟨w.heap.size + 1, 3, none⟩ = some (.int .i64 0) := hbl.cell rfl
    have hl := RdT.len HT.out
    by_cases hlt : k < nt
    · obtain ⟨b, o, t, rfl, hb, hx, e0, e1, e2, e3⟩ := RdT.at_ (HT.out.kp hkp (fun _ _ => id)) hlt
      obtain ⟨fr, up, tg, rg⟩ := t
      simp only at e0 e1 e2 e3
      have HX := Lib.hid hx
      clear hgk hf hkp hbl hx hl
      by_cases ha : fr ≤ at_ ∧ at_ < up
      · have q1 : decide (fr ≤ at_) = true := by simpa using ha.1
        have q2 : decide (at_ < up) = true := by simpa using ha.2
        go_wp2
        refine bodyPost_ret (v := .tuple #[TryD.agg ⟨fr, up, tg, rg⟩, .bool true]) (by simp [results, Try.results68, go_sem, TryD.agg, hz, y0, y1, y2, y3]) rfl ?_
        rw [first_some HX.out HF.out (by simp [TryD.has, ha])]
        exact ⟨rfl, (((((HK.out.setCell (.inl (by simp)) _).setCell (.inl (by simp)) _).setCell (.inl (by simp)) _).setCell (.inl (by simp)) _).alloc _).below (fun _ _ h => h)⟩
      · have hno : TryD.has ⟨fr, up, tg, rg⟩ at_ = false := by
          simp only [TryD.has, Bool.and_eq_false_iff, decide_eq_false_iff_not]
          rcases Classical.em (fr ≤ at_) with h | h
          · exact .inr (fun h2 => ha ⟨h, h2⟩)
          · exact .inl h
        have HN := Lib.hid hno
        clear hno
        by_cases h1 : fr ≤ at_
        · have q1 : decide (fr ≤ at_) = true := by simpa using h1
          have q2 : decide (at_ < up) = false := by simp; omega
          go_wp2
          go_roundg (nt - (k + 1))
          case rel => exact ⟨k + 1, by omega, rfl, by go_num, first_none HX.out HF.out HN.out, HK.out.alloc _, HBL.out.alloc _⟩
          case measure => have := HG.out; omega
        · have q1 : decide (fr ≤ at_) = false := by simp; omega
          go_wp2
          go_roundg (nt - (k + 1))
          case rel => exact ⟨k + 1, by omega, rfl, by go_num, first_none HX.out HF.out HN.out, HK.out.alloc _, HBL.out.alloc _⟩
          case measure => have := HG.out; omega
    · obtain rfl : k = nt := by omega
      clear hgk hf hkp hbl
      go_wp2
      refine bodyPost_ret (v := .tuple #[TryD.agg TryD.zero, .bool false]) (by simp [results, Try.results68, go_sem, TryD.agg, TryD.zero, y0, y1, y2, y3]) rfl ?_
      have h0 := HF.out
      rw [List.take_of_length_le (by omega)] at h0
      rw [h0]
      exact ⟨rfl, ((((HK.out.setCell (.inl (by simp)) _).setCell (.inl (by simp)) _).setCell (.inl (by simp)) _).setCell (.inl (by simp)) _).below (fun _ _ h => h)⟩
end Go.Proofs.Ytpcamgjfikipgaa
