/- What each of the Gens' functions makes of GenPlays' state. Conditions: fewer than 1000 keys. -/
import Derived.Test.YtpcamgjfikipgaaPlay
namespace Go.Proofs.Ytpcamgjfikipgaa
open Go.RowKit Go.Maps
set_option linter.unusedVariables false
variable {w0 w : World} {g mb base sb fm : Nat} {f : Int → Option GE} {fb : Int → Option Nat} {sz : Nat} {c : Int}
theorem elI_val (x : Int) : elI.val x = .int .i64 x := rfl
theorem elP_some (b : Nat) : elP.val (some b) = .pointer (some ⟨b, 0, none⟩) := rfl
theorem elP_none : elP.val none = .pointer none := rfl
theorem Play.frame (h : Play w0 w g mb base sb fm f fb sz) {x : GE} (hf : f c = some x) : ∃ b, fb c = some b ∧ fits w base c x b := by
  have := h.dom c
  rw [hf] at this
  cases hq : fb c with
  | none => rw [hq] at this; cases this
  | some b => exact ⟨b, rfl, h.each c x b hf hq⟩
theorem kpFalse {w w' : World} {S : Nat → Prop} (k : Kp S w w') (h : ∀ b, ¬ S b) : Below w.heap.size w w' := k.below (fun b _ => h b)
theorem p_resume_none (h : Play w0 w g mb base sb fm f fb sz) (hc : wfk c) (hf : f c = none) : Calls Try.prog 43 #[.pointer (some ⟨g, 0, none⟩), .int .i64 c] w fun e w' => e = .returned (.tuple #[.pointer none, .int .i64 3]) ∧ Play w0 w' g mb base sb fm f fb sz := by
  refine (resume_any h.gs hc (fun x hx => by rw [hf] at hx; cases hx)).mono ?_
  rintro e w' ⟨rfl, h1, h2⟩
  rw [hf] at h2 ⊢
  exact ⟨rfl, h.below (kpFalse h2 (fun b ⟨x, hx, _⟩ => by cases hx))⟩
theorem p_resume_0 (h : Play w0 w g mb base sb fm f fb sz) (hc : wfk c) (hs : sz < 1000) {e b : Nat} (hf : f c = some ⟨e, some b, 0⟩) (hb : fb c = some b) : Calls Try.prog 43 #[.pointer (some ⟨g, 0, none⟩), .int .i64 c] w fun x w' => x = .returned (.tuple #[.pointer (some ⟨b, 0, none⟩), .int .i64 0]) ∧ IM elP w' fm (fun k => (fb k).map (fun b => some b)) sz ∧
    ∃ w4, (Instr.mapUpdate 86 (.map (some sb)) (.int .i64 c) (.int .i64 1)).run Try.prog w' = .ok () w4 ∧ Play w0 w4 g mb base sb fm (upd f c (some ⟨e, none, 1⟩)) fb sz := by
  refine (resume_any h.gs hc (fun x hx => by rw [hf] at hx; injection hx with hx; subst hx; exact .inl rfl)).mono ?_
  rintro x w' ⟨rfl, h1, h2⟩
  have hx := h.gs.en c _ hf
  rw [hf] at h1 h2 ⊢
  have k : Kp (fun z => z = e) w w' := h2.mono (fun z _ ⟨y, hy, hz⟩ => by injection hy with hy; subst hy; exact hz)
  obtain ⟨w4, hr, hp⟩ := h.turned (y := ⟨e, none, 1⟩) hc hf hb rfl (.inr (.inl ⟨rfl, rfl⟩)) h1 k hs
  exact ⟨rfl, h.fr.kp k (fun e' => im_ne hx h.fr e'.symm), w4, hr, hp⟩
theorem p_resume_12 (h : Play w0 w g mb base sb fm f fb sz) (hc : wfk c) {e : Nat} {fr : Option Nat} {st : Int} (hst : st = 1 ∨ st = 2) (hf : f c = some ⟨e, fr, st⟩) : Calls Try.prog 43 #[.pointer (some ⟨g, 0, none⟩), .int .i64 c] w fun x w' => x = .returned (.tuple #[.pointer none, .int .i64 (if st = 1 then 42 else 3)]) ∧ Play w0 w' g mb base sb fm f fb sz := by
  refine (resume_any h.gs hc (fun x hx => by rw [hf] at hx; injection hx with hx; subst hx; exact .inr hst)).mono ?_
  rintro x w' ⟨rfl, h1, h2⟩
  rw [hf] at h1 h2 ⊢
  have k : Kp (fun z => z = e) w w' := h2.mono (fun z _ ⟨y, hy, hz⟩ => by injection hy with hy; subst hy; exact hz)
  have h0 : st ≠ 0 := by omega
  have e1 : resO (some ⟨e, fr, st⟩) = some ⟨e, fr, st⟩ := by simp [resO, h0]
  rw [e1] at h1
  refine ⟨?_, h.stayed hf h1 k⟩
  rcases hst with rfl | rfl <;> simp [resV]
theorem p_resume_1 (h : Play w0 w g mb base sb fm f fb sz) (hc : wfk c) {e : Nat} {fr : Option Nat} (hf : f c = some ⟨e, fr, 1⟩) : Calls Try.prog 43 #[.pointer (some ⟨g, 0, none⟩), .int .i64 c] w fun x w' => x = .returned (.tuple #[.pointer none, .int .i64 42]) ∧ Play w0 w' g mb base sb fm f fb sz := by
  have := p_resume_12 h hc (.inl rfl) hf
  rwa [if_pos rfl] at this
theorem p_resume_2 (h : Play w0 w g mb base sb fm f fb sz) (hc : wfk c) {e : Nat} {fr : Option Nat} (hf : f c = some ⟨e, fr, 2⟩) : Calls Try.prog 43 #[.pointer (some ⟨g, 0, none⟩), .int .i64 c] w fun x w' => x = .returned (.tuple #[.pointer none, .int .i64 3]) ∧ Play w0 w' g mb base sb fm f fb sz := by
  have := p_resume_12 h hc (.inr rfl) hf
  rwa [if_neg (by decide)] at this
theorem p_susp_1 (h : Play w0 w g mb base sb fm f fb sz) (hc : wfk c) (hs : sz < 1000) {e b : Nat} {fr : Option Nat} (hf : f c = some ⟨e, fr, 1⟩) (hb : fb c = some b) : Calls Try.prog 44 #[.pointer (some ⟨g, 0, none⟩), .pointer (some ⟨b, 0, none⟩)] w fun x w' => x = .returned (.tuple #[]) ∧
    ∃ w4, (Instr.mapUpdate 86 (.map (some sb)) (.int .i64 c) (.int .i64 0)).run Try.prog w' = .ok () w4 ∧ Play w0 w4 g mb base sb fm (upd f c (some ⟨e, some b, 0⟩)) fb sz := by
  obtain ⟨_, R, hfr, _⟩ := h.each c _ b hf hb
  refine (suspend_any h.gs hc hfr).mono ?_
  rintro x w' ⟨rfl, h1, h2⟩
  rw [hf] at h1 h2
  have k : Kp (fun z => z = e) w w' := h2.mono (fun z _ ⟨y, hy, hz⟩ => by injection hy with hy; subst hy; exact hz)
  exact ⟨rfl, h.turned (y := ⟨e, some b, 0⟩) hc hf hb rfl (.inl ⟨rfl, rfl⟩) h1 k hs⟩
theorem p_susp_02 (h : Play w0 w g mb base sb fm f fb sz) (hc : wfk c) {e b : Nat} {fr : Option Nat} {st : Int} (hst : st ≠ 1) (hf : f c = some ⟨e, fr, st⟩) (hb : fb c = some b) : Calls Try.prog 44 #[.pointer (some ⟨g, 0, none⟩), .pointer (some ⟨b, 0, none⟩)] w fun x w' => x = .returned (.tuple #[]) ∧ Play w0 w' g mb base sb fm f fb sz := by
  obtain ⟨_, R, hfr, _⟩ := h.each c _ b hf hb
  refine (suspend_any h.gs hc hfr).mono ?_
  rintro x w' ⟨rfl, h1, h2⟩
  rw [hf] at h1 h2
  have k : Kp (fun z => z = e) w w' := h2.mono (fun z _ ⟨y, hy, hz⟩ => by injection hy with hy; subst hy; exact hz)
  have e1 : susO b (some ⟨e, fr, st⟩) = some ⟨e, fr, st⟩ := by simp [susO, hst]
  rw [e1] at h1
  exact ⟨rfl, h.stayed hf h1 k⟩
theorem end_kp {f : Int → Option GE} (h : GS w g mb base f sz) {k : Int} (hk : wfk k) : Calls Try.prog 45 #[.pointer (some ⟨g, 0, none⟩), .int .i64 k] w fun e w' => e = .returned (.tuple #[]) ∧ GS w' g mb base (upd f k (endO (f k))) sz ∧ Kp (fun b => ∃ x, f k = some x ∧ b = x.e) w w' := by
  have hb := h.box.cell (i := 0) rfl
  have hl := h.look hk
  rcases hf : f k with _ | ⟨e, fr, st⟩
  · rw [hf] at hl
    simp only at hl
    have hnn := fun W => run_neq_nil_nil (P := Try.prog) W (tp := 118) Try.underlying118
    have H := Lib.hid h
    have HF := Lib.hid hf
    clear h hk hf
    go_enter Try.func45, Try.ntmps45
    go_wp2
    go_end0
    exact ⟨rfl, by rw [upd_self f k (endO none) HF.out]; exact H.out, Kp.refl _ _⟩
  · rw [hf] at hl
    simp only at hl
    have he := h.en k _ hf
    have hx1 : w.cell? ⟨e, 1, none⟩ = some (.int .i64 st) := he.cell rfl
    have hx0 : w.cell? ⟨e, 0, none⟩ = some (ptrO fr) := he.cell rfl
    have f0 := he.frozen 0
    have f1 := he.frozen 1
    have hnn := fun W => run_neq_ptr_none (P := Try.prog) W (tp := 118) ⟨e, 0, none⟩ Try.underlying118
    have H := Lib.hid h
    have HF := Lib.hid hf
    have HE := Lib.hid he
    clear h hk hf he
    go_enter Try.func45, Try.ntmps45
    go_wp2
    go_end0
    have hbb := (HE.out.set_ 1 (.int .i64 2)).set_ 0 (.pointer none)
    have hq : Kp (fun b => b = e) w ((w.setCell ⟨e, 1, none⟩ (.int .i64 2)).setCell ⟨e, 0, none⟩ (.pointer none)) := ((Kp.refl (fun b => b = e) w).setCell (p := ⟨e, 1, none⟩) (.inr rfl) _).setCell (p := ⟨e, 0, none⟩) (.inr rfl) _
    exact ⟨rfl, H.out.turn (fr' := none) (st' := 2) HF.out hq hbb, by first | exact hq | exact hq.mono (fun b' _ (h : b' = e) => ⟨_, rfl, h⟩)⟩
theorem p_end_none (h : Play w0 w g mb base sb fm f fb sz) (hc : wfk c) (hf : f c = none) : Calls Try.prog 45 #[.pointer (some ⟨g, 0, none⟩), .int .i64 c] w fun e w' => e = .returned (.tuple #[]) ∧ Play w0 w' g mb base sb fm f fb sz := by
  refine (end_kp h.gs hc).mono ?_
  rintro e w' ⟨rfl, h1, h2⟩
  rw [hf] at h2
  exact ⟨rfl, h.below (kpFalse h2 (fun b ⟨x, hx, _⟩ => by cases hx))⟩
theorem p_end_some (h : Play w0 w g mb base sb fm f fb sz) (hc : wfk c) (hs : sz < 1000) {x : GE} (hf : f c = some x) : Calls Try.prog 45 #[.pointer (some ⟨g, 0, none⟩), .int .i64 c] w fun e w' => e = .returned (.tuple #[]) ∧
    ∃ w4, (Instr.mapUpdate 86 (.map (some sb)) (.int .i64 c) (.int .i64 2)).run Try.prog w' = .ok () w4 ∧ Play w0 w4 g mb base sb fm (upd f c (some ⟨x.e, none, 2⟩)) fb sz := by
  obtain ⟨b, hb, _⟩ := h.frame hf
  refine (end_kp h.gs hc).mono ?_
  rintro e w' ⟨rfl, h1, h2⟩
  rw [hf] at h1 h2
  have k : Kp (fun z => z = x.e) w w' := h2.mono (fun z _ ⟨y, hy, hz⟩ => by injection hy with hy; subst hy; exact hz)
  exact ⟨rfl, h.turned (y := ⟨x.e, none, 2⟩) hc hf hb rfl (.inr (.inr ⟨rfl, rfl⟩)) h1 k hs⟩
theorem p_drop (h : Play w0 w g mb base sb fm f fb sz) (hc : wfk c) {d : Int} (hd : dropN (f c) = d) : Calls Try.prog 46 #[.pointer (some ⟨g, 0, none⟩), .int .i64 c] w fun e w' => e = .returned (.int .i64 d) ∧
    ∃ w4 w5, (∀ ty, (Builtin.delete_ #[86, 3] ty #[.map (some sb), .int .i64 c]).run Try.prog w' = .ok (.tuple #[]) w4) ∧ (∀ ty, (Builtin.delete_ #[87, 3] ty #[.map (some fm), .int .i64 c]).run Try.prog w4 = .ok (.tuple #[]) w5) ∧
      Play w0 w5 g mb base sb fm (upd f c none) (upd fb c none) (if (f c).isSome then sz - 1 else sz) := by
  refine (gdrop_any h.gs hc).mono ?_
  rintro e w' ⟨rfl, h1, h2⟩
  rw [hd]
  obtain ⟨w4, w5, r4, r5, hp⟩ := h.gone hc h1 h2 0 0
  exact ⟨rfl, w4, w5, fun _ => r4, fun _ => r5, hp⟩
theorem p_add (h : Play w0 w g mb base sb fm f fb sz) (hc : wfk c) (hf : f c = none) (hs : sz < 1000) {w3 : World} {b R : Nat} (hbe : Below w.heap.size w w3) (hb : w.heap.size ≤ b) (hR : w.heap.size ≤ R) {how gen : Int} (hfr : FrG w3 b R (List.replicate 2 V.null) how gen) :
    Calls Try.prog 42 #[.pointer (some ⟨g, 0, none⟩), .int .i64 c, .pointer (some ⟨b, 0, none⟩)] w3 fun e w' => e = .returned (.tuple #[]) ∧
      ∃ w4 w5 f' fb', (Instr.mapUpdate 86 (.map (some sb)) (.int .i64 c) (.int .i64 0)).run Try.prog w' = .ok () w4 ∧ (Instr.mapUpdate 87 (.map (some fm)) (.int .i64 c) (.pointer (some ⟨b, 0, none⟩))).run Try.prog w4 = .ok () w5 ∧ Play w0 w5 g mb base sb fm f' fb' (sz + 1) := by
  have h3 := h.below hbe
  have hlo := h.lo
  have hgl := h.gs.box.lt
  have hg0 := h.gs.lo.1
  refine (add_any h3.gs hc hf hs hfr).mono ?_
  rintro e w' ⟨rfl, h1, h2, k⟩
  have hold : ∀ j x b', f j = some x → fb j = some b' → b' ≠ b ∧ ∃ R', FrG w3 b' R' (List.replicate 2 V.null) 6 j ∧ base ≤ b' ∧ base ≤ R' ∧ R' ≠ b := fun j x b' hx hb' => by
    obtain ⟨_, R', q, q2⟩ := h.each j x b' hx hb'
    have hl := q.lt
    exact ⟨by omega, R', q.below hbe, q2.1, q2.2, by omega⟩
  obtain ⟨w4, w5, r4, r5, hp⟩ := h3.added hc hf (b := b) (R := R) ⟨by omega, by omega, by omega⟩ (fun j b' hb' => by
    have := h.dom j
    rw [hb'] at this
    cases hx : f j with
    | none => rw [hx] at this; cases this
    | some x => exact (hold j x b' hx hb').1) (fun j x b' hx hb' => (hold j x b' hx hb').2) hfr h1 h2 k hs
  exact ⟨rfl, w4, w5, _, _, r4, r5, hp⟩
theorem p_state_none (h : Play w0 w g mb base sb fm f fb sz) (hc : wfk c) (hf : f c = none) : Calls Try.prog 47 #[.pointer (some ⟨g, 0, none⟩), .int .i64 c] w fun e w' => e = .returned (.int .i64 2) ∧ w' = w := by
  have := state_any h.gs hc
  rwa [hf] at this
theorem p_state_some (h : Play w0 w g mb base sb fm f fb sz) (hc : wfk c) {e : Nat} {fr : Option Nat} {st : Int} (hf : f c = some ⟨e, fr, st⟩) : Calls Try.prog 47 #[.pointer (some ⟨g, 0, none⟩), .int .i64 c] w fun e w' => e = .returned (.int .i64 st) ∧ w' = w := by
  have := state_any h.gs hc
  rwa [hf] at this
theorem p_values_no (h : Play w0 w g mb base sb fm f fb sz) (hc : wfk c) (hn : ∀ x, f c = some x → x.fr = none) : Calls Try.prog 48 #[.pointer (some ⟨g, 0, none⟩), .int .i64 c] w fun e w' => e = .returned (.slice none 0 0) ∧ Below w.heap.size w w' := by
  refine (gvalues_none h.gs hc hn).mono ?_
  rintro e w' ⟨rfl, rfl⟩
  exact ⟨rfl, Below.refl _ _⟩
theorem p_values_yes (h : Play w0 w g mb base sb fm f fb sz) (hc : wfk c) (h0 : 0 ≤ c) {e b : Nat} {st : Int} (hf : f c = some ⟨e, some b, st⟩) (hb : fb c = some b) : Calls Try.prog 48 #[.pointer (some ⟨g, 0, none⟩), .int .i64 c] w fun e w' => ∃ A c', e = .returned (.slice A 6 c') ∧ Below w.heap.size w w' := by
  obtain ⟨_, R, hfr, _⟩ := h.each c _ b hf hb
  exact gvalues_some (n := 2) h.gs hc hf hfr h0 (by simp) (by omega)
theorem p_cells (h : Play w0 w g mb base sb fm f fb sz) (hs : sz ≤ 1000) : Calls Try.prog 49 #[.pointer (some ⟨g, 0, none⟩)] w fun e w' => ∃ A c', e = .returned (.slice A sz c') ∧ Play w0 w' g mb base sb fm f fb sz ∧ ∀ ty, (Builtin.len_ #[86] ty #[.map (some sb)]).run Try.prog w' = .ok (.int .i64 sz) w' := by
  refine (cells_any h.gs hs).mono ?_
  rintro e w' ⟨A, c', rfl, hb⟩
  have h2 := h.below hb
  exact ⟨A, c', rfl, h2, fun ty => h2.st.len Try.underlying86 ty⟩
end Go.Proofs.Ytpcamgjfikipgaa
