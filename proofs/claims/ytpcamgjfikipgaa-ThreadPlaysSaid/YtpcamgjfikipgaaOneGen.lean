/- One generator of a gen.Gens: what the functions tell of it and make of it. Conditions: fewer than 1000 generators. -/
import Derived.Test.YtpcamgjfikipgaaCells
namespace Go.Proofs.Ytpcamgjfikipgaa
open Go.RowKit
set_option linter.unusedVariables false
def G0 (w : World) (g mb base : Nat) (k : Int) (sz : Nat) : Prop := ∃ f, GS w g mb base f sz ∧ f k = none
def G1 (w : World) (g mb base : Nat) (k : Int) (e : Nat) (fr : Option Nat) (st : Int) (sz : Nat) : Prop := ∃ f, GS w g mb base f sz ∧ f k = some ⟨e, fr, st⟩
theorem upd_at {α : Type} (f : Int → Option α) (k : Int) (x : Option α) : upd f k x k = x := by unfold upd; rw [if_pos rfl]
theorem GS.below {w w' : World} {g mb base : Nat} {f : Int → Option GE} {sz : Nat} (h : GS w g mb base f sz) (k : Below w.heap.size w w') : GS w' g mb base f sz := h.kp (S := fun _ => False) (Kp.of_below k) (fun _ h => h.elim)
theorem G0.below {w w' : World} {g mb base : Nat} {k : Int} {sz : Nat} (h : G0 w g mb base k sz) (b : Below w.heap.size w w') : G0 w' g mb base k sz := by
  obtain ⟨f, h, hf⟩ := h; exact ⟨f, h.below b, hf⟩
theorem G1.below {w w' : World} {g mb base : Nat} {k : Int} {e : Nat} {fr : Option Nat} {st : Int} {sz : Nat} (h : G1 w g mb base k e fr st sz) (b : Below w.heap.size w w') : G1 w' g mb base k e fr st sz := by
  obtain ⟨f, h, hf⟩ := h; exact ⟨f, h.below b, hf⟩
theorem g0_state {w : World} {g mb base : Nat} {k : Int} {sz : Nat} (h : G0 w g mb base k sz) (hk : wfk k) : Calls Try.prog 47 #[.pointer (some ⟨g, 0, none⟩), .int .i64 k] w fun e w' => e = .returned (.int .i64 2) ∧ w' = w := by
  obtain ⟨f, h, hf⟩ := h
  have := state_any h hk
  rwa [hf] at this
theorem g1_state {w : World} {g mb base : Nat} {k : Int} {e : Nat} {fr : Option Nat} {st : Int} {sz : Nat} (h : G1 w g mb base k e fr st sz) (hk : wfk k) : Calls Try.prog 47 #[.pointer (some ⟨g, 0, none⟩), .int .i64 k] w fun e w' => e = .returned (.int .i64 st) ∧ w' = w := by
  obtain ⟨f, h, hf⟩ := h
  have := state_any h hk
  rwa [hf] at this
theorem g0_add {w : World} {g mb base : Nat} {k : Int} {sz : Nat} (h : G0 w g mb base k sz) (hk : wfk k) (hs : sz < 1000) {b R : Nat} {regs : List V} {how gen : Int} (hb : FrG w b R regs how gen) (hbb : base ≤ b) :
    Calls Try.prog 42 #[.pointer (some ⟨g, 0, none⟩), .int .i64 k, .pointer (some ⟨b, 0, none⟩)] w fun e w' => e = .returned (.tuple #[]) ∧ (∃ e0, G1 w' g mb base k e0 (some b) 0 (sz + 1)) ∧ FrG w' b R regs 6 k ∧ Kp (fun x => base ≤ x) w w' := by
  obtain ⟨f, h, hf⟩ := h
  have hl := h.lo
  refine (add_any h hk hf hs hb).mono ?_
  rintro e w' ⟨rfl, h1, h2, h3⟩
  exact ⟨rfl, ⟨_, _, h1, upd_at _ _ _⟩, h2, h3.mono (fun x _ e => by rcases e with e | e <;> (subst e; first | exact hbb | exact hl.2.1))⟩
theorem g1_resume0 {w : World} {g mb base : Nat} {k : Int} {e b R : Nat} {sz : Nat} {regs : List V} {how gen : Int} (h : G1 w g mb base k e (some b) 0 sz) (hk : wfk k) (hb : FrG w b R regs how gen) : Calls Try.prog 43 #[.pointer (some ⟨g, 0, none⟩), .int .i64 k] w fun x w' => x = .returned (.tuple #[.pointer (some ⟨b, 0, none⟩), .int .i64 0]) ∧ G1 w' g mb base k e none 1 sz ∧ FrG w' b R regs how gen ∧ Kp (fun x => base ≤ x) w w' := by
  obtain ⟨f, h, hf⟩ := h
  have hl := h.lo
  have he := h.en k _ hf
  refine (resume_any h hk (fun x hx => by rw [hf] at hx; injection hx with hx; subst hx; exact .inl rfl)).mono ?_
  rintro x w' ⟨rfl, h1, h3⟩
  obtain ⟨hR, fn, cl, se, pc, dst, ex, hbb⟩ := hb
  rw [hf] at h1 h3 ⊢
  refine ⟨rfl, ⟨_, h1, by rw [upd_at]; rfl⟩, FrG.kp ⟨hR, fn, cl, se, pc, dst, ex, hbb⟩ h3 ?_ ?_, h3.mono (fun x _ e => ?_)⟩
  · rintro ⟨x, hx, e2⟩; injection hx with hx; subst hx; exact blk_ne hbb he (by decide) e2
  · rintro ⟨x, hx, e2⟩; injection hx with hx; subst hx; exact blk_ne hR he (by decide) e2
  · obtain ⟨y, hy, rfl⟩ := e; exact hl.2.2 k y (by rw [hf]; exact hy)
theorem g1_resume1 {w : World} {g mb base : Nat} {k : Int} {e : Nat} {fr : Option Nat} {sz : Nat} (h : G1 w g mb base k e fr 1 sz) (hk : wfk k) : Calls Try.prog 43 #[.pointer (some ⟨g, 0, none⟩), .int .i64 k] w fun x w' => x = .returned (.tuple #[.pointer none, .int .i64 42]) ∧ G1 w' g mb base k e fr 1 sz ∧ Kp (fun x => x = e) w w' := by
  obtain ⟨f, h, hf⟩ := h
  refine (resume_any h hk (fun x hx => by rw [hf] at hx; injection hx with hx; subst hx; exact .inr (.inl rfl))).mono ?_
  rintro x w' ⟨rfl, h1, h3⟩
  rw [hf] at h1 h3 ⊢
  exact ⟨rfl, ⟨_, h1, by rw [upd_at]; rfl⟩, h3.mono (fun x _ e => by obtain ⟨y, hy, rfl⟩ := e; injection hy with hy; rw [← hy])⟩
theorem g1_resume2 {w : World} {g mb base : Nat} {k : Int} {e : Nat} {fr : Option Nat} {sz : Nat} (h : G1 w g mb base k e fr 2 sz) (hk : wfk k) : Calls Try.prog 43 #[.pointer (some ⟨g, 0, none⟩), .int .i64 k] w fun x w' => x = .returned (.tuple #[.pointer none, .int .i64 3]) ∧ G1 w' g mb base k e fr 2 sz ∧ Kp (fun x => x = e) w w' := by
  obtain ⟨f, h, hf⟩ := h
  refine (resume_any h hk (fun x hx => by rw [hf] at hx; injection hx with hx; subst hx; exact .inr (.inr rfl))).mono ?_
  rintro x w' ⟨rfl, h1, h3⟩
  rw [hf] at h1 h3 ⊢
  exact ⟨rfl, ⟨_, h1, by rw [upd_at]; rfl⟩, h3.mono (fun x _ e => by obtain ⟨y, hy, rfl⟩ := e; injection hy with hy; rw [← hy])⟩
theorem G1.fr {w w' : World} {g mb base : Nat} {k : Int} {e : Nat} {fr : Option Nat} {st : Int} {sz : Nat} (h : G1 w g mb base k e fr st sz) {b R : Nat} {regs : List V} {how gen : Int} (hb : FrG w b R regs how gen) (k3 : Kp (fun x => x = e) w w') : FrG w' b R regs how gen := by
  obtain ⟨f, h, hf⟩ := h
  have he := h.en k _ hf
  obtain ⟨hR, fn, cl, se, pc, dst, ex, hbb⟩ := hb
  exact FrG.kp ⟨hR, fn, cl, se, pc, dst, ex, hbb⟩ k3 (fun (e2 : b = e) => blk_ne hbb he (by decide) e2) (fun (e2 : R = e) => blk_ne hR he (by decide) e2)
theorem G1.eb {w : World} {g mb base : Nat} {k : Int} {e : Nat} {fr : Option Nat} {st : Int} {sz : Nat} (h : G1 w g mb base k e fr st sz) : base ≤ e := by
  obtain ⟨f, h, hf⟩ := h
  exact h.lo.2.2 k _ hf
theorem g1_suspend {w : World} {g mb base : Nat} {k : Int} {e b R : Nat} {fr : Option Nat} {sz : Nat} {regs : List V} {how : Int} (h : G1 w g mb base k e fr 1 sz) (hk : wfk k) (hb : FrG w b R regs how k) : Calls Try.prog 44 #[.pointer (some ⟨g, 0, none⟩), .pointer (some ⟨b, 0, none⟩)] w fun x w' => x = .returned (.tuple #[]) ∧ G1 w' g mb base k e (some b) 0 sz ∧ Kp (fun x => x = e) w w' := by
  obtain ⟨f, h, hf⟩ := h
  refine (suspend_any h hk hb).mono ?_
  rintro x w' ⟨rfl, h1, h3⟩
  rw [hf] at h1 h3
  exact ⟨rfl, ⟨_, h1, by rw [upd_at]; rfl⟩, h3.mono (fun x _ e => by obtain ⟨y, hy, rfl⟩ := e; injection hy with hy; rw [← hy])⟩
theorem g1_end {w : World} {g mb base : Nat} {k : Int} {e : Nat} {fr : Option Nat} {st : Int} {sz : Nat} (h : G1 w g mb base k e fr st sz) (hk : wfk k) : Calls Try.prog 45 #[.pointer (some ⟨g, 0, none⟩), .int .i64 k] w fun x w' => x = .returned (.tuple #[]) ∧ G1 w' g mb base k e none 2 sz ∧ Kp (fun x => base ≤ x) w w' := by
  obtain ⟨f, h, hf⟩ := h
  refine (end_any h hk).mono ?_
  rintro x w' ⟨rfl, h1, h3⟩
  rw [hf] at h1
  exact ⟨rfl, ⟨_, h1, by rw [upd_at]; rfl⟩, h3⟩
theorem g1_drop {w : World} {g mb base : Nat} {k : Int} {e : Nat} {st : Int} {sz : Nat} (h : G1 w g mb base k e none st sz) (hk : wfk k) : Calls Try.prog 46 #[.pointer (some ⟨g, 0, none⟩), .int .i64 k] w fun x w' => x = .returned (.int .i64 0) ∧ G0 w' g mb base k (sz - 1) ∧ Kp (fun x => base ≤ x) w w' := by
  obtain ⟨f, h, hf⟩ := h
  have hl := h.lo
  refine (gdrop_any h hk).mono ?_
  rintro x w' ⟨rfl, h1, h3⟩
  rw [hf] at h1 ⊢
  exact ⟨rfl, ⟨_, h1, upd_at _ _ _⟩, h3.mono (fun x _ (e : x = mb) => by show base ≤ x; rw [e]; exact hl.2.1)⟩
theorem g1_values {w : World} {g mb base : Nat} {k : Int} {e b R : Nat} {st : Int} {sz : Nat} {regs : List V} {how gen : Int} (h : G1 w g mb base k e (some b) st sz) (hk : wfk k) (hb : FrG w b R regs how gen) (hg : 0 ≤ gen) {n : Nat} (hrl : regs.length = n) (hn : n ≤ 1000) :
    Calls Try.prog 48 #[.pointer (some ⟨g, 0, none⟩), .int .i64 k] w fun x w' => ∃ A c, x = .returned (.slice A (n + 4) c) ∧ Below w.heap.size w w' := by
  obtain ⟨f, h, hf⟩ := h
  exact gvalues_some h hk hf hb hg hrl hn
theorem g1_cells {w : World} {g mb base : Nat} {k : Int} {e : Nat} {fr : Option Nat} {st : Int} {sz : Nat} (h : G1 w g mb base k e fr st sz) (hs : sz ≤ 1000) : Calls Try.prog 49 #[.pointer (some ⟨g, 0, none⟩)] w fun x w' => ∃ A c, x = .returned (.slice A sz c) ∧ Below w.heap.size w w' := by
  obtain ⟨f, h, hf⟩ := h
  exact cells_any h hs
theorem g0_cells {w : World} {g mb base : Nat} {k : Int} {sz : Nat} (h : G0 w g mb base k sz) (hs : sz ≤ 1000) : Calls Try.prog 49 #[.pointer (some ⟨g, 0, none⟩)] w fun x w' => ∃ A c, x = .returned (.slice A sz c) ∧ Below w.heap.size w w' := by
  obtain ⟨f, h, hf⟩ := h
  exact cells_any h hs
end Go.Proofs.Ytpcamgjfikipgaa
