/- gen.Gens: the contracts of its functions. Conditions: fewer than 100000 generators; keys are ints. -/
import Derived.Test.YtpcamgjfikipgaaIMap
namespace Go.Proofs.Ytpcamgjfikipgaa
open Go.RowKit
set_option linter.unusedVariables false
/-- A generator: the block of its entry, its frame as long as it waits, its state. -/
structure GE where
  e : Nat
  fr : Option Nat
  st : Int
def ptrO : Option Nat → Value
  | some b => .pointer (some ⟨b, 0, none⟩)
  | none => .pointer none
structure GS (w : World) (g mb base : Nat) (f : Int → Option GE) (sz : Nat) : Prop where
  box : Blk w g 117 [.map (some mb)]
  im : IM elP w mb (fun k => (f k).map (fun x => some x.e)) sz
  en : ∀ k x, f k = some x → Blk w x.e 120 [ptrO x.fr, .int .i64 x.st]
  apart : ∀ k k' x y, f k = some x → f k' = some y → x.e = y.e → k = k'
  lo : base ≤ g ∧ base ≤ mb ∧ ∀ k x, f k = some x → base ≤ x.e
theorem zero118 (W : World) : (zeroValue 118).run Try.prog W = .ok (elP.val none) W := by
  simp [zeroValue, elP, Try.t118]
theorem GS.look {w : World} {g mb base : Nat} {f : Int → Option GE} {sz : Nat} (h : GS w g mb base f sz) {k : Int} (hk : wfk k) : (Instr.lookup 115 (.map (some mb)) (.int .i64 k) false).run Try.prog w = .ok (match f k with | some x => .pointer (some ⟨x.e, 0, none⟩) | none => .pointer none) w := by
  rw [h.im.look Try.underlying115 zero118 hk]
  rcases f k with _ | x <;> rfl
def stO : Option GE → Int
  | some x => x.st
  | none => 2
theorem state_any {w : World} {g mb base : Nat} {f : Int → Option GE} {sz : Nat} (h : GS w g mb base f sz) {k : Int} (hk : wfk k) : Calls Try.prog 47 #[.pointer (some ⟨g, 0, none⟩), .int .i64 k] w fun e w' => e = .returned (.int .i64 (stO (f k))) ∧ w' = w := by
  have hb := h.box.cell (i := 0) rfl
  have hl := h.look hk
  rcases hf : f k with _ | ⟨e, fr, st⟩
  · rw [hf] at hl
    simp only at hl
    have hnn := fun W => run_neq_nil_nil (P := Try.prog) W (tp := 118) Try.underlying118
    clear h hk hf
    go_enter Try.func47, Try.ntmps47
    go_wp2
    go_ret
    exact ⟨rfl, rfl⟩
  · rw [hf] at hl
    simp only at hl
    have hx : w.cell? ⟨e, 1, none⟩ = some (.int .i64 st) := (h.en k _ hf).cell rfl
    have hnn := fun W => run_neq_ptr_none (P := Try.prog) W (tp := 118) ⟨e, 0, none⟩ Try.underlying118
    clear h hk hf
    go_enter Try.func47, Try.ntmps47
    go_wp2
    go_ret
    exact ⟨rfl, rfl⟩
theorem blk_ne {w : World} {a b t u : Nat} {cs ds : List Value} (ha : Blk w a t cs) (hb : Blk w b u ds) (h : t ≠ u) : a ≠ b := by
  rintro rfl
  unfold Blk at ha hb
  rw [ha] at hb
  injection hb with e
  injection e with _ e
  exact h e
theorem im_ne {α : Type} {E : El α} {w : World} {a b t : Nat} {cs : List Value} {f : Int → Option α} {sz : Nat} (ha : Blk w a t cs) (hb : IM E w b f sz) : a ≠ b := by
  rintro rfl
  obtain ⟨D, ⟨es, clock, h, _⟩, _⟩ := hb
  unfold Blk at ha
  rw [ha] at h
  injection h with e
  cases e
theorem GS.kp {w w' : World} {S : Nat → Prop} {g mb base : Nat} {f : Int → Option GE} {sz : Nat} (h : GS w g mb base f sz) (k : Kp S w w') (hs : ∀ b, S b → b < base ∨ w.heap.size ≤ b) : GS w' g mb base f sz := by
  have hn : ∀ b, base ≤ b → b < w.heap.size → ¬ S b := fun b h1 h2 h3 => by rcases hs b h3 with h | h <;> omega
  exact ⟨h.box.kp k (hn _ h.lo.1 h.box.lt), h.im.kp k (hn _ h.lo.2.1 h.im.lt), fun j x hx => (h.en j x hx).kp k (hn _ (h.lo.2.2 j x hx) (h.en j x hx).lt), h.apart, h.lo⟩
theorem GS.turn {w w' : World} {g mb base : Nat} {f : Int → Option GE} {sz : Nat} (h : GS w g mb base f sz) {k : Int} {e : Nat} {fr fr' : Option Nat} {st st' : Int} (hf : f k = some ⟨e, fr, st⟩) (hk : Kp (fun b => b = e) w w') (hb : Blk w' e 120 [ptrO fr', .int .i64 st']) : GS w' g mb base (upd f k (some ⟨e, fr', st'⟩)) sz := by
  have he := h.en k _ hf
  have hu : ∀ j, ((upd f k (some ⟨e, fr', st'⟩)) j).map (fun x => some x.e) = (f j).map (fun x => some x.e) := fun j => by
    unfold upd
    split
    · rename_i hj
      rw [hj, hf]; rfl
    · rfl
  refine ⟨h.box.kp hk (blk_ne h.box he (by decide)), ?_, fun j x hx => ?_, fun j j' x y hx hy hxy => ?_, h.lo.1, h.lo.2.1, fun j x hx => ?_⟩
  · have := h.im.kp hk (fun e => (im_ne he h.im) e.symm)
    simpa only [hu] using this
  · unfold upd at hx
    split at hx
    · injection hx with hx; subst hx; exact hb
    · rename_i hj
      exact (h.en j x hx).kp hk (fun e' => hj (h.apart j k x _ hx hf e'))
  · have key : ∀ j x, (upd f k (some ⟨e, fr', st'⟩)) j = some x → ∃ x0, f j = some x0 ∧ x0.e = x.e := fun j x hx => by
      unfold upd at hx
      split at hx
      · rename_i hj
        injection hx with hx
        subst hx
        exact ⟨⟨e, fr, st⟩, by rw [hj]; exact hf, rfl⟩
      · exact ⟨x, hx, rfl⟩
    obtain ⟨x0, hx0, ex⟩ := key j x hx
    obtain ⟨y0, hy0, ey⟩ := key j' y hy
    exact h.apart j j' x0 y0 hx0 hy0 (by rw [ex, ey, hxy])
  · unfold upd at hx
    split at hx
    · injection hx with hx; subst hx; exact h.lo.2.2 k ⟨e, fr, st⟩ hf
    · exact h.lo.2.2 j x hx
/-- End. -/
def endO : Option GE → Option GE
  | some x => some ⟨x.e, none, 2⟩
  | none => none
theorem upd_self {α : Type} (f : Int → Option α) (k : Int) (x : Option α) (h : f k = x) : upd f k x = f := by
  funext j
  unfold upd
  split
  · rename_i e; rw [e, h]
  · rfl
theorem end_any {w : World} {g mb base : Nat} {f : Int → Option GE} {sz : Nat} (h : GS w g mb base f sz) {k : Int} (hk : wfk k) : Calls Try.prog 45 #[.pointer (some ⟨g, 0, none⟩), .int .i64 k] w fun e w' => e = .returned (.tuple #[]) ∧ GS w' g mb base (upd f k (endO (f k))) sz ∧ Kp (fun b => base ≤ b) w w' := by
  have hb := h.box.cell (i := 0) rfl
  have hl := h.look hk
  rcases hf : f k with _ | ⟨e, fr, st⟩
  · rw [hf] at hl
    simp only at hl
    have hnn := fun W => run_neq_nil_nil (P := Try.prog) W (tp := 118) Try.underlying118
    have H := Lib.hid h
    have HF := Lib.hid hf
    clear h hk hf
    go_enter Try.func45, Try.ntmps45
    go_wp2
    go_end0
    exact ⟨rfl, by rw [upd_self f k (endO none) HF.out]; exact H.out, Kp.refl _ _⟩
  · rw [hf] at hl
    simp only at hl
    have he := h.en k _ hf
    have hx1 : w.cell? ⟨e, 1, none⟩ = some (.int .i64 st) := he.cell rfl
    have hx0 : w.cell? ⟨e, 0, none⟩ = some (ptrO fr) := he.cell rfl
    have f0 := he.frozen 0
    have f1 := he.frozen 1
    have hnn := fun W => run_neq_ptr_none (P := Try.prog) W (tp := 118) ⟨e, 0, none⟩ Try.underlying118
    have hlo := h.lo.2.2 k _ hf
    have H := Lib.hid h
    have HF := Lib.hid hf
    have HE := Lib.hid he
    clear h hk hf he
    go_enter Try.func45, Try.ntmps45
    go_wp2
    go_end0
    have hbb := (HE.out.set_ 1 (.int .i64 2)).set_ 0 (.pointer none)
    exact ⟨rfl, H.out.turn HF.out (((Kp.refl (fun b => b = e) w).setCell (.inr rfl) _).setCell (.inr rfl) _) hbb, ((Kp.refl (fun b => base ≤ b) w).setCell (.inr hlo) _).setCell (.inr hlo) _⟩
end Go.Proofs.Ytpcamgjfikipgaa
