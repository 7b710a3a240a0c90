/- gen.Gens: New, Name, Add, Resume, Suspend, Drop, Values. Conditions: fewer than 100000 generators; keys are ints. -/
import Derived.Test.YtpcamgjfikipgaaGens
namespace Go.Proofs.Ytpcamgjfikipgaa
open Go.RowKit
set_option linter.unusedVariables false
theorem GS.kpS {w w' : World} {S : Nat → Prop} {g mb base : Nat} {f : Int → Option GE} {sz : Nat} (h : GS w g mb base f sz) (k : Kp S w w') (hg : ¬ S g) (hm : ¬ S mb) (he : ∀ j x, f j = some x → ¬ S x.e) : GS w' g mb base f sz :=
  ⟨h.box.kp k hg, h.im.kp k hm, fun j x hx => (h.en j x hx).kp k (he j x hx), h.apart, h.lo⟩
theorem gname0 (w : World) : Calls Try.prog 40 #[.int .i64 0] w fun e w' => e = .returned (.string ⟨#[115, 117, 115, 112, 101, 110, 100, 101, 100]⟩) ∧ w' = w := by
  go_enter Try.func40, Try.ntmps40
  go_wp2
  go_ret
  exact ⟨rfl, rfl⟩
theorem gname1 (w : World) : Calls Try.prog 40 #[.int .i64 1] w fun e w' => e = .returned (.string ⟨#[114, 117, 110, 110, 105, 110, 103]⟩) ∧ w' = w := by
  go_enter Try.func40, Try.ntmps40
  go_wp2
  go_ret
  exact ⟨rfl, rfl⟩
theorem gname2 (k : Int) (h0 : k ≠ 0) (h1 : k ≠ 1) (w : World) : Calls Try.prog 40 #[.int .i64 k] w fun e w' => e = .returned (.string ⟨#[100, 101, 97, 100]⟩) ∧ w' = w := by
  have q0 : (k == 0) = false := by simpa using h0
  have q0b : decide (k = 0) = false := decide_eq_false h0
  have q1 : (k == 1) = false := by simpa using h1
  have q1b : decide (k = 1) = false := decide_eq_false h1
  clear h0 h1
  go_enter Try.func40, Try.ntmps40
  go_wp2
  go_ret
  exact ⟨rfl, rfl⟩
theorem gens_new (w : World) : Calls Try.prog 41 #[] w fun e w' => e = .returned (.pointer (some ⟨w.heap.size + 1, 0, none⟩)) ∧ GS w' (w.heap.size + 1) w.heap.size w.heap.size (fun _ => none) 0 ∧ Below w.heap.size w w' := by
  have hmm := @run_makeMap Try.prog
  go_enter Try.func41, Try.ntmps41
  go_wp2
  go_ret
  refine ⟨rfl, ⟨?_, ?_, fun k x hx => (by cases hx), fun k k' x y hx => (by cases hx), by omega, Nat.le_refl _, fun k x hx => (by cases hx)⟩, below_alloc (below_alloc (Below.refl _ _) _) _⟩
  · exact Blk.made (by simp) 117 _
  · exact (IM.new elP w).kp (S := fun _ => False) ((Kp.refl _ _).alloc _) id
/-- A frame that is kept by a generator or a thread: its block, its registers' block, how it was begun, its generator. -/
def FrG (w : World) (b R : Nat) (regs : List V) (how gen : Int) : Prop :=
  Blk w R 25 (vcs regs) ∧ ∃ fn cl se pc dst ex, Blk w b 40 (fcs fn cl se (.slice (some ⟨R, 0, none⟩) regs.length regs.length) pc dst how ex (.pointer none) gen)
theorem FrG.kp {w w' : World} {S : Nat → Prop} {b R : Nat} {regs : List V} {how gen : Int} (h : FrG w b R regs how gen) (k : Kp S w w') (h1 : ¬ S b) (h2 : ¬ S R) : FrG w' b R regs how gen := by
  obtain ⟨hR, fn, cl, se, pc, dst, ex, hb⟩ := h
  exact ⟨hR.kp k h2, fn, cl, se, pc, dst, ex, hb.kp k h1⟩
theorem FrG.lt {w : World} {b R : Nat} {regs : List V} {how gen : Int} (h : FrG w b R regs how gen) : b < w.heap.size ∧ R < w.heap.size := by
  obtain ⟨hR, fn, cl, se, pc, dst, ex, hb⟩ := h
  exact ⟨hb.lt, hR.lt⟩
/-- The world in which a generator's frame is marked. -/
def marked (w : World) (b : Nat) (k : Int) : World := (w.setCell ⟨b, 15, none⟩ (.int .i64 k)).setCell ⟨b, 10, none⟩ (.int .i64 6)
theorem marked_kp (w : World) (b : Nat) (k : Int) : Kp (fun x => x = b) w (marked w b k) := ((Kp.refl (fun x => x = b) w).setCell (p := ⟨b, 15, none⟩) (.inr rfl) _).setCell (p := ⟨b, 10, none⟩) (.inr rfl) _
theorem marked_fr {w : World} {b R : Nat} {regs : List V} {how gen : Int} (h : FrG w b R regs how gen) (k : Int) : FrG (marked w b k) b R regs 6 k := by
  obtain ⟨hR, fn, cl, se, pc, dst, ex, hb⟩ := h
  refine ⟨hR.kp (marked_kp w b k) (fun (e : R = b) => blk_ne hR hb (by decide) e), fn, cl, se, pc, dst, ex, ?_⟩
  exact (hb.set_ 15 (.int .i64 k)).set_ 10 (.int .i64 6)
set_option maxRecDepth 100000 in
theorem add_any {w : World} {g mb base : Nat} {f : Int → Option GE} {sz : Nat} (h : GS w g mb base f sz) {k : Int} (hk : wfk k) (hf : f k = none) (hs : sz < 1000) {b R : Nat} {regs : List V} {how gen : Int} (hb : FrG w b R regs how gen) :
    Calls Try.prog 42 #[.pointer (some ⟨g, 0, none⟩), .int .i64 k, .pointer (some ⟨b, 0, none⟩)] w fun e w' => e = .returned (.tuple #[]) ∧ GS w' g mb base (upd f k (some ⟨w.heap.size, some b, 0⟩)) (sz + 1) ∧ FrG w' b R regs 6 k ∧ Kp (fun x => x = b ∨ x = mb) w w' := by
  have hb0 := hb
  obtain ⟨hR, fn, cl, se, pc, dst, ex, hbb⟩ := hb0
  have hbm : b ≠ mb := im_ne hbb h.im
  have hRm : R ≠ mb := im_ne hR h.im
  have hgm : g ≠ mb := im_ne h.box h.im
  have hgb : g ≠ b := fun e => blk_ne h.box hbb (by decide) e
  have hlo := h.lo
  have hgl := h.box.lt
  have hml := h.im.lt
  have hk1 := marked_kp w b k
  have hk2 : Kp (fun x => x = b) w ((marked w b k).alloc (.cells #[.pointer (some ⟨b, 0, none⟩), .int .i64 0] 120)) := hk1.alloc _
  have hsz1 : (marked w b k).heap.size = w.heap.size := by simp [marked]
  have him2 : IM elP ((marked w b k).alloc (.cells #[.pointer (some ⟨b, 0, none⟩), .int .i64 0] 120)) mb (fun j => (f j).map (fun x => some x.e)) sz := h.im.kp hk2 (fun (e : mb = b) => hbm e.symm)
  obtain ⟨w3, hrun, him3, hg3, hsz3⟩ := him2.put Try.underlying115 (by omega) hk (some w.heap.size)
  rw [hf] at him3
  have hk3 : Kp (fun x => x = b ∨ x = mb) w w3 := (hk2.mono (fun _ _ h => .inl h)).trans (Kp.of_grown hg3 (S := fun x => x = mb) (fun g e => by injection e with e; exact e.symm)) (fun _ _ h => .inr h)
  have hen : Blk w3 w.heap.size 120 [.pointer (some ⟨b, 0, none⟩), .int .i64 0] := by
    have hnew : Blk ((marked w b k).alloc (.cells #[.pointer (some ⟨b, 0, none⟩), .int .i64 0] 120)) w.heap.size 120 [.pointer (some ⟨b, 0, none⟩), .int .i64 0] := Blk.made hsz1 120 _
    exact hnew.kp (Kp.of_grown hg3 (S := fun x => x = mb) (fun g e => by injection e with e; exact e.symm)) (fun (e : w.heap.size = mb) => by omega)
  have hfr3 : FrG w3 b R regs 6 k := ((marked_fr hb k).kp (S := fun _ => False) ((Kp.refl _ _).alloc _) id id).kp (Kp.of_grown hg3 (S := fun x => x = mb) (fun g e => by injection e with e; exact e.symm)) hbm hRm
  have hgs : GS w3 g mb base (upd f k (some ⟨w.heap.size, some b, 0⟩)) (sz + 1) := by
    refine ⟨h.box.kp hk3 (fun e => e.elim hgb hgm), ?_, fun j x hx => ?_, fun j j' x y hx hy hxy => ?_, hlo.1, hlo.2.1, fun j x hx => ?_⟩
    · have e : (fun j => ((upd f k (some ⟨w.heap.size, some b, 0⟩)) j).map (fun x => some x.e)) = upd (fun j => (f j).map (fun x => some x.e)) k (some (some w.heap.size)) := by
        funext j
        unfold upd
        split <;> rfl
      rw [e]
      simpa using him3
    · unfold upd at hx
      split at hx
      · injection hx with hx; subst hx; exact hen
      · have hx2 := h.en j x hx
        exact hx2.kp hk3 (fun e => e.elim (fun e => blk_ne hx2 hbb (by decide) e) (fun e => im_ne hx2 h.im e))
    · unfold upd at hx hy
      split at hx
      · rename_i hj
        injection hx with hx
        subst hx
        split at hy
        · rename_i hj'; rw [hj, hj']
        · have := (h.en j' y hy).lt
          simp only at hxy
          omega
      · have h1 := (h.en j x hx).lt
        split at hy
        · injection hy with hy
          subst hy
          simp only at hxy
          omega
        · exact h.apart j j' x y hx hy hxy
    · unfold upd at hx
      split at hx
      · injection hx with hx; subst hx; show base ≤ w.heap.size; omega
      · exact hlo.2.2 j x hx
  have HG := Lib.hid (And.intro hgs (And.intro hfr3 hk3))
  have c0 := h.box.cell (i := 0) rfl
  have f15 := hbb.frozen 15
  have f10 := hbb.frozen 10
  have e15 : w.cell? ⟨b, 15, none⟩ = some (.int .i64 gen) := hbb.cell rfl
  have e10 : w.cell? ⟨b, 10, none⟩ = some (.int .i64 how) := hbb.cell rfl
  have hbl := hbb.lt
  unfold marked at hrun
  have hrun2 : (Instr.mapUpdate 115 (.map (some mb)) (.int .i64 k) (.pointer (some ⟨w.heap.size, 0, none⟩))).run Try.prog _ = _ := hrun
  clear hgs hfr3 hk3 hen hrun him3 him2 hk2 hk1 hsz1 hb hbb hR h hlo hf hg3 hsz3 hk hbm hRm hml hs
  go_enter Try.func42, Try.ntmps42
  go_wp2
  go_end0
  exact ⟨rfl, HG.out⟩
/-- Resume: what comes back, and what its entry is then. -/
def resV : Option GE → Value
  | some x => if x.st = 0 then .tuple #[ptrO x.fr, .int .i64 0] else if x.st = 1 then .tuple #[.pointer none, .int .i64 42] else .tuple #[.pointer none, .int .i64 3]
  | none => .tuple #[.pointer none, .int .i64 3]
def resO : Option GE → Option GE
  | some x => if x.st = 0 then some ⟨x.e, none, 1⟩ else some x
  | none => none
set_option maxRecDepth 100000 in
theorem resume_any {w : World} {g mb base : Nat} {f : Int → Option GE} {sz : Nat} (h : GS w g mb base f sz) {k : Int} (hk : wfk k) (hst : ∀ x, f k = some x → x.st = 0 ∨ x.st = 1 ∨ x.st = 2) :
    Calls Try.prog 43 #[.pointer (some ⟨g, 0, none⟩), .int .i64 k] w fun e w' => e = .returned (resV (f k)) ∧ GS w' g mb base (upd f k (resO (f k))) sz ∧ Kp (fun b => ∃ x, f k = some x ∧ b = x.e) w w' := by
  have hb := h.box.cell (i := 0) rfl
  have hl := h.look hk
  rcases hf : f k with _ | ⟨e, fr, st⟩
  · rw [hf] at hl
    simp only at hl
    have hnn := fun W => run_eql_nil_nil (P := Try.prog) W (tp := 118) Try.underlying118
    have H := Lib.hid h
    have HF := Lib.hid hf
    clear h hk hf hst
    go_enter Try.func43, Try.ntmps43
    go_wp2
    go_ret2
    exact ⟨rfl, by rw [upd_self f k (resO none) HF.out]; exact H.out, Kp.refl _ _⟩
  · rw [hf] at hl
    simp only at hl
    have he := h.en k _ hf
    have hx1 : w.cell? ⟨e, 1, none⟩ = some (.int .i64 st) := he.cell rfl
    have hx0 : w.cell? ⟨e, 0, none⟩ = some (ptrO fr) := he.cell rfl
    have f0 := he.frozen 0
    have f1 := he.frozen 1
    have hnn := fun W => run_eql_ptr_nil (P := Try.prog) W (tp := 118) ⟨e, 0, none⟩ Try.underlying118
    have hlo := h.lo.2.2 k _ hf
    have H := Lib.hid h
    have HF := Lib.hid hf
    have HE := Lib.hid he
    rcases hst _ hf with e0 | e1 | e2
    · simp only at e0
      subst e0
      clear h hk hf he hst
      go_enter Try.func43, Try.ntmps43
      go_wp2
      go_ret2
      have hbb := (HE.out.set_ 1 (.int .i64 1)).set_ 0 (.pointer none)
      refine ⟨by simp [resV], ?_, ((Kp.refl (fun b => b = e) w).setCell (p := ⟨e, 1, none⟩) (.inr rfl) _).setCell (p := ⟨e, 0, none⟩) (.inr rfl) _⟩
      exact H.out.turn (fr' := none) (st' := 1) HF.out (((Kp.refl (fun b => b = e) w).setCell (p := ⟨e, 1, none⟩) (.inr rfl) _).setCell (p := ⟨e, 0, none⟩) (.inr rfl) _) hbb
    · simp only at e1
      subst e1
      clear h hk hf he hst
      go_enter Try.func43, Try.ntmps43
      go_wp2
      go_ret2
      exact ⟨by simp [resV], by rw [upd_self f k _ (by rw [HF.out]; simp [resO])]; exact H.out, Kp.refl _ _⟩
    · simp only at e2
      subst e2
      clear h hk hf he hst
      go_enter Try.func43, Try.ntmps43
      go_wp2
      go_ret2
      exact ⟨by simp [resV], by rw [upd_self f k _ (by rw [HF.out]; simp [resO])]; exact H.out, Kp.refl _ _⟩
/-- Suspend. -/
def susO (b : Nat) : Option GE → Option GE
  | some x => if x.st = 1 then some ⟨x.e, some b, 0⟩ else some x
  | none => none
set_option maxRecDepth 100000 in
theorem suspend_any {w : World} {g mb base : Nat} {f : Int → Option GE} {sz : Nat} (h : GS w g mb base f sz) {k : Int} (hk : wfk k) {b R : Nat} {regs : List V} {how : Int} (hfr : FrG w b R regs how k) :
    Calls Try.prog 44 #[.pointer (some ⟨g, 0, none⟩), .pointer (some ⟨b, 0, none⟩)] w fun e w' => e = .returned (.tuple #[]) ∧ GS w' g mb base (upd f k (susO b (f k))) sz ∧ Kp (fun b => ∃ x, f k = some x ∧ b = x.e) w w' := by
  have hb := h.box.cell (i := 0) rfl
  have hl : ∀ n, (Instr.lookup 115 (.map (some mb)) (.int .i64 k) false).run Try.prog (w.drewN n) = _ := fun n => (h.kp (S := fun _ => False) ((Kp.refl _ w).drewN n) (fun _ h => h.elim)).look hk
  have hbx := hfr
  obtain ⟨_, fn, cl, se, pc, dst, ex, hbb⟩ := hbx
  have g15 : w.cell? ⟨b, 15, none⟩ = some (.int .i64 k) := hbb.cell rfl
  rcases hf : f k with _ | ⟨e, fr, st⟩
  · rw [hf] at hl
    simp only at hl
    have hnn := fun W => run_neq_nil_nil (P := Try.prog) W (tp := 118) Try.underlying118
    have H := Lib.hid h
    have HF := Lib.hid hf
    clear h hk hf hbb hfr
    go_enter Try.func44, Try.ntmps44
    go_wp2
    go_quiet (fail)
    go_wp2
    go_end0
    exact ⟨rfl, by rw [upd_self f k (susO b none) HF.out]; exact H.out.kp (S := fun _ => False) ((Kp.refl _ w).drewN _) (fun _ h => h.elim), (Kp.refl _ w).drewN _⟩
  · rw [hf] at hl
    simp only at hl
    have he := h.en k _ hf
    have hx1 : w.cell? ⟨e, 1, none⟩ = some (.int .i64 st) := he.cell rfl
    have hx0 : w.cell? ⟨e, 0, none⟩ = some (ptrO fr) := he.cell rfl
    have f0 := he.frozen 0
    have f1 := he.frozen 1
    have hnn := fun W => run_neq_ptr_none (P := Try.prog) W (tp := 118) ⟨e, 0, none⟩ Try.underlying118
    have H := Lib.hid h
    have HF := Lib.hid hf
    have HE := Lib.hid he
    by_cases e1 : st = 1
    · subst e1
      clear h hk hf he hbb hfr
      go_enter Try.func44, Try.ntmps44
      go_wp2
      go_quiet (fail)
      go_wp2
      go_end0
      have hq : Kp (fun b' => b' = e) w ((((w.drewN nq).setCell ⟨e, 1, none⟩ (.int .i64 0))).setCell ⟨e, 0, none⟩ (.pointer (some ⟨b, 0, none⟩))) := (((Kp.refl (fun b' => b' = e) w).drewN _).setCell (p := ⟨e, 1, none⟩) (.inr rfl) _).setCell (p := ⟨e, 0, none⟩) (.inr rfl) _
      have hbb := ((HE.out.drewN nq).set_ 1 (.int .i64 0)).set_ 0 (.pointer (some ⟨b, 0, none⟩))
      refine ⟨rfl, ?_, hq.mono (fun b' _ (h : b' = e) => ⟨_, rfl, h⟩)⟩
      exact H.out.turn (fr' := some b) (st' := 0) HF.out hq hbb
    · have q1 : (st == 1) = false := by simpa using e1
      have q1b : decide (st = 1) = false := decide_eq_false e1
      have HE1 := Lib.hid e1
      clear h hk hf he hbb hfr e1
      go_enter Try.func44, Try.ntmps44
      go_wp2
      go_quiet (fail)
      go_wp2
      go_end0
      exact ⟨rfl, by rw [upd_self f k _ (by rw [HF.out]; simp [susO, HE1.out])]; exact H.out.kp (S := fun _ => False) ((Kp.refl _ w).drewN _) (fun _ h => h.elim), (Kp.refl _ w).drewN _⟩
theorem FrG.drewN {w : World} {b R : Nat} {regs : List V} {how gen : Int} (h : FrG w b R regs how gen) (n : Nat) : FrG (w.drewN n) b R regs how gen := h.kp (S := fun _ => False) ((Kp.refl _ w).drewN n) id id
/-- Drop: how many go. -/
def dropN : Option GE → Int
  | some x => if x.fr.isSome then 1 else 0
  | none => 0
theorem GS.gone {w w' : World} {g mb base : Nat} {f : Int → Option GE} {sz sz' : Nat} (h : GS w g mb base f sz) {k : Int} (hk : Kp (fun b => b = mb) w w') (him : IM elP w' mb (upd (fun j => (f j).map (fun x => some x.e)) k none) sz') : GS w' g mb base (upd f k none) sz' := by
  have e : (fun j => ((upd f k none) j).map (fun x => some x.e)) = upd (fun j => (f j).map (fun x => some x.e)) k none := by
    funext j
    unfold upd
    split <;> rfl
  have key : ∀ j x, (upd f k none) j = some x → f j = some x := fun j x hx => by
    unfold upd at hx
    split at hx
    · cases hx
    · exact hx
  exact ⟨h.box.kp hk (im_ne h.box h.im), by rw [e]; exact him, fun j x hx => (h.en j x (key j x hx)).kp hk (im_ne (h.en j x (key j x hx)) h.im), fun j j' x y hx hy hxy => h.apart j j' x y (key j x hx) (key j' y hy) hxy, h.lo.1, h.lo.2.1, fun j x hx => h.lo.2.2 j x (key j x hx)⟩
set_option maxRecDepth 100000 in
theorem gdrop_any {w : World} {g mb base : Nat} {f : Int → Option GE} {sz : Nat} (h : GS w g mb base f sz) {k : Int} (hk : wfk k) :
    Calls Try.prog 46 #[.pointer (some ⟨g, 0, none⟩), .int .i64 k] w fun e w' => e = .returned (.int .i64 (dropN (f k))) ∧ GS w' g mb base (upd f k none) (if (f k).isSome then sz - 1 else sz) ∧ Kp (fun b => b = mb) w w' := by
  have hb := h.box.cell (i := 0) rfl
  have hl := h.look hk
  obtain ⟨w3, hrun0, him3, hg3, hsz3⟩ := h.im.del Try.underlying115 hk 0
  have hrun : ∀ ty, (Builtin.delete_ #[115, 3] ty #[.map (some mb), .int .i64 k]).run Try.prog w = .ok (.tuple #[]) w3 := fun ty => hrun0
  have hk3 : Kp (fun x => x = mb) w w3 := Kp.of_grown hg3 (fun g e => by injection e with e; exact e.symm)
  have hgs := h.gone hk3 him3
  have hm : ((f k).map (fun x => some x.e)).isSome = (f k).isSome := by cases f k <;> rfl
  rw [hm] at hgs
  have HG := Lib.hid (And.intro hgs hk3)
  clear hgs hk3 him3 hg3 hsz3 hm hrun0
  rcases hf : f k with _ | ⟨e, fr, st⟩
  · rw [hf] at hl HG
    simp only at hl
    have hnn := fun W => run_neq_nil_nil (P := Try.prog) W (tp := 118) Try.underlying118
    clear h hk hf
    go_enter Try.func46, Try.ntmps46
    go_wp2
    go_ret
    exact ⟨rfl, HG.out⟩
  · rw [hf] at hl HG
    simp only at hl
    have he := h.en k _ hf
    have hx0 : w.cell? ⟨e, 0, none⟩ = some (ptrO fr) := he.cell rfl
    have hnn := fun W => run_neq_ptr_none (P := Try.prog) W (tp := 118) ⟨e, 0, none⟩ Try.underlying118
    clear h hk hf he
    rcases fr with _ | b
    · have hnn2 := fun W => run_neq_nil_nil (P := Try.prog) W (tp := 35) Try.underlying35
      simp only [ptrO] at hx0
      go_enter Try.func46, Try.ntmps46
      go_wp2
      go_ret
      exact ⟨rfl, HG.out⟩
    · have hnn2 := fun W => run_neq_ptr_none (P := Try.prog) W (tp := 35) ⟨b, 0, none⟩ Try.underlying35
      simp only [ptrO] at hx0
      go_enter Try.func46, Try.ntmps46
      go_wp2
      go_ret
      exact ⟨rfl, HG.out⟩
/-- Values: nothing, or what the frame keeps. -/
theorem gvalues_none {w : World} {g mb base : Nat} {f : Int → Option GE} {sz : Nat} (h : GS w g mb base f sz) {k : Int} (hk : wfk k) (hn : ∀ x, f k = some x → x.fr = none) :
    Calls Try.prog 48 #[.pointer (some ⟨g, 0, none⟩), .int .i64 k] w fun e w' => e = .returned (.slice none 0 0) ∧ w' = w := by
  have hb := h.box.cell (i := 0) rfl
  have hl := h.look hk
  rcases hf : f k with _ | ⟨e, fr, st⟩
  · rw [hf] at hl
    simp only at hl
    have hnn := fun W => run_neq_nil_nil (P := Try.prog) W (tp := 118) Try.underlying118
    clear h hk hf hn
    go_enter Try.func48, Try.ntmps48
    go_wp2
    go_ret
    exact ⟨rfl, rfl⟩
  · have hfr := hn _ hf
    simp only at hfr
    subst hfr
    rw [hf] at hl
    simp only at hl
    have hx0 : w.cell? ⟨e, 0, none⟩ = some (.pointer none) := (h.en k _ hf).cell rfl
    have hnn := fun W => run_neq_ptr_none (P := Try.prog) W (tp := 118) ⟨e, 0, none⟩ Try.underlying118
    have hnn2 := fun W => run_neq_nil_nil (P := Try.prog) W (tp := 35) Try.underlying35
    clear h hk hf hn
    go_enter Try.func48, Try.ntmps48
    go_wp2
    go_ret
    exact ⟨rfl, rfl⟩
theorem gvalues_some {w : World} {g mb base : Nat} {f : Int → Option GE} {sz : Nat} (h : GS w g mb base f sz) {k : Int} (hk : wfk k) {e b R : Nat} {st : Int} {regs : List V} {how gen : Int} (hf : f k = some ⟨e, some b, st⟩) (hfr : FrG w b R regs how gen) (hg : 0 ≤ gen) {n : Nat} (hrl : regs.length = n) (hn : n ≤ 1000) :
    Calls Try.prog 48 #[.pointer (some ⟨g, 0, none⟩), .int .i64 k] w fun e w' => ∃ A c, e = .returned (.slice A (n + 4) c) ∧ Below w.heap.size w w' := by
  have hb := h.box.cell (i := 0) rfl
  have hl := h.look hk
  rw [hf] at hl
  simp only at hl
  have hx0 : w.cell? ⟨e, 0, none⟩ = some (.pointer (some ⟨b, 0, none⟩)) := (h.en k _ hf).cell rfl
  have hnn := fun W => run_neq_ptr_none (P := Try.prog) W (tp := 118) ⟨e, 0, none⟩ Try.underlying118
  have hnn2 := fun W => run_neq_ptr_none (P := Try.prog) W (tp := 35) ⟨b, 0, none⟩ Try.underlying35
  obtain ⟨hR, fn, cl, se, pc, dst, ex, hbb⟩ := hfr
  have hv : Calls Try.prog 26 #[.pointer (some ⟨b, 0, none⟩)] w fun e w' => ∃ A c, e = .returned (.slice A (n + 4) c) ∧ Below w.heap.size w w' := by
    refine (values_gen hbb (Rd.of_blk hR (by rw [vcs_length])) (by omega) hg).mono ?_
    rintro e w' ⟨v, rfl, ho, hbe⟩
    obtain ⟨A, c, rfl, _, _⟩ := ho.rd
    have e1 : ((([cl, se, ex] ++ regs) ++ [V.ref gen]).length) = n + 4 := by simp [hrl]
    rw [e1]
    exact ⟨A, c, rfl, hbe⟩
  have HV := Lib.hid hv
  clear h hk hf hR hbb hv
  go_enter Try.func48, Try.ntmps48
  go_wp2_with (go_at_call 26; refine HV.out.mono ?_; rintro e w' ⟨A, c, rfl, hbe⟩)
  go_ret
  exact ⟨A, c, rfl, hbe⟩
end Go.Proofs.Ytpcamgjfikipgaa
