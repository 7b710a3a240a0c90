/- dreylaw26.goes: one thread, step by step. No condition. -/
import Derived.Test.YtpcamgjfikipgaaThrLive
namespace Go.Proofs.Ytpcamgjfikipgaa
open Go.RowKit
set_option linter.unusedVariables false
/-- One thread. -/
structure TA (w0 w : World) (t mb base me : Nat) (k : Int) (o : Option TE) (n : Nat) (rv : Value) (rs : List Nat) : Prop where
  ts : ∃ f, TS w t mb base (mainE me) f n rv rs ∧ f k = o
  lo : w0.heap.size ≤ base
  bel : Below w0.heap.size w0 w
/-- One thread, and its frame. -/
structure TF (w0 w : World) (t mb base me : Nat) (k : Int) (x : TE) (n : Nat) (rv : Value) (rs : List Nat) (b R : Nat) (rg : List V) : Prop where
  ta : TA w0 w t mb base me k (some x) n rv rs
  fr : FrG w b R rg 5 (-1)
  lR : w0.heap.size ≤ R
section
variable {w0 w : World} {t mb base me : Nat} {k : Int} {o : Option TE} {n : Nat} {rv : Value} {rs r0 : List Nat} {x : TE} {b R : Nat} {rg : List V}
theorem TA.below (h : TA w0 w t mb base me k o n rv rs) {w' : World} (q : Below w.heap.size w w') : TA w0 w' t mb base me k o n rv rs := by
  obtain ⟨f, ht, hf⟩ := h.ts
  exact ⟨⟨f, ht.below q, hf⟩, h.lo, h.bel.trans (q.mono h.bel.size)⟩
theorem TA.drew (h : TA w0 w t mb base me k o n rv rs) (i : Nat) : TA w0 (w.drewN i) t mb base me k o n rv rs := h.below (((Kp.refl (fun _ => False) w).drewN i).below (fun _ _ h => h))
theorem TF.below (h : TF w0 w t mb base me k x n rv rs b R rg) {w' : World} (q : Below w.heap.size w w') : TF w0 w' t mb base me k x n rv rs b R rg := ⟨h.ta.below q, h.fr.below q, h.lR⟩
theorem TF.drew (h : TF w0 w t mb base me k x n rv rs b R rg) (i : Nat) : TF w0 (w.drewN i) t mb base me k x n rv rs b R rg := ⟨h.ta.drew i, h.fr.drewN i, h.lR⟩
theorem TA.step (h : TA w0 w t mb base me k (some x) n rv rs) {w' : World} {S : Nat → Prop} (kp : Kp S w w') (hS : ∀ z, S z → w0.heap.size ≤ z ∨ thS t mb x rv z) {o' : Option TE} {n' : Nat} {rv' : Value} {rs' : List Nat} (ts' : ∃ f, TS w' t mb base (mainE me) f n' rv' rs' ∧ f k = o') : TA w0 w' t mb base me k o' n' rv' rs' := by
  obtain ⟨f, ht, hf⟩ := h.ts
  have hx := ht.en k x hf
  exact ⟨ts', h.lo, kpb h.bel (kp.mono (fun z _ e => (hS z e).elim id (fun e => Nat.le_trans h.lo (ht.low hx e))))⟩
theorem ta_deep (h : TA w0 w t mb base me k o n rv rs) : Calls Try.prog 62 #[.pointer (some ⟨t, 0, none⟩)] w fun z w' => z = .returned (.int .i64 rs.length) ∧ w' = w := by
  obtain ⟨f, ht, hf⟩ := h.ts
  exact deep_any ht
theorem ta_now_main (h : TA w0 w t mb base me k o n rv [me]) : Calls Try.prog 53 #[.pointer (some ⟨t, 0, none⟩)] w fun z w' => z = .returned (.pointer (some ⟨me, 0, none⟩)) ∧ TA w0 w' t mb base me k o n rv [me] ∧ w'.cell? ⟨me, 0, none⟩ = some (.int .i64 (-1)) := by
  obtain ⟨f, ht, hf⟩ := h.ts
  refine (now_any (rs := []) (e := me) ht (by simp)).mono ?_
  rintro z w' ⟨rfl, i, rfl⟩
  have hc : w.cell? ⟨me, 0, none⟩ = some (.int .i64 (-1)) := ht.main.stk.blk.cell rfl
  exact ⟨rfl, h.drew i, hc⟩
theorem ta_susp_main (h : TA w0 w t mb base me k o n rv [me]) (j : Int) : Calls Try.prog 54 #[.pointer (some ⟨t, 0, none⟩), .int .i64 j] w fun z w' => z = .returned (.int .i64 42) ∧ TA w0 w' t mb base me k o n rv [me] := by
  obtain ⟨f, ht, hf⟩ := h.ts
  refine (tsusp_main (rs := []) ht (by simp) j).mono ?_
  rintro z w' ⟨rfl, i, rfl⟩
  exact ⟨rfl, h.drew i⟩
theorem ta_end_main (h : TA w0 w t mb base me k o n rv [me]) : Calls Try.prog 57 #[.pointer (some ⟨t, 0, none⟩)] w fun z w' => z = .returned (.int .i64 42) ∧ TA w0 w' t mb base me k o n rv [me] := by
  obtain ⟨f, ht, hf⟩ := h.ts
  refine (tend_main (rs := []) ht (by simp)).mono ?_
  rintro z w' ⟨rfl, i, rfl⟩
  exact ⟨rfl, h.drew i⟩
theorem ta_add (h : TA w0 w t mb base me k none n rv rs) (hk : wfk k) (hn : n < 1000) : Calls Try.prog 51 #[.pointer (some ⟨t, 0, none⟩), .int .i64 k] w fun z w' => z = .returned (.tuple #[]) ∧ ∃ e, TA w0 w' t mb base me k (some (idleE e)) (n + 1) rv rs := by
  obtain ⟨f, ht, hf⟩ := h.ts
  refine (tadd_any ht hk hf hn).mono ?_
  rintro z w' ⟨rfl, h1, kp⟩
  exact ⟨rfl, _, ⟨_, h1, upd_at _ _ _⟩, h.lo, kpb h.bel (kp.mono (fun z _ (e : z = mb) => by subst e; exact Nat.le_trans h.lo ht.lo.2))⟩
theorem ta_state (h : TA w0 w t mb base me k (some x) n rv rs) (hk : wfk k) : Calls Try.prog 58 #[.pointer (some ⟨t, 0, none⟩), .int .i64 k] w fun z w' => z = .returned (.int .i64 x.st) ∧ w' = w := by
  obtain ⟨f, ht, hf⟩ := h.ts
  exact tstate_some ht hk hf
theorem ta_wake_no (h : TA w0 w t mb base me k (some x) n rv rs) (hk : wfk k) (hst : x.st ≠ 1) (v : V) : Calls Try.prog 56 #[.pointer (some ⟨t, 0, none⟩), .int .i64 k, v.agg] w fun z w' => z = .returned (.int .i64 42) ∧ TA w0 w' t mb base me k (some x) n rv rs := by
  obtain ⟨f, ht, hf⟩ := h.ts
  refine (twake_no ht hk hf hst v).mono ?_
  rintro z w' ⟨rfl, hb⟩
  exact ⟨rfl, h.below hb⟩
theorem tf_start (h : TA w0 w t mb base me k (some x) n rv rs) (hk : wfk k) (hst : x.st = 0) {how : Int} (hfr : FrG w b R rg how (-1)) (hb : w0.heap.size ≤ b) (hR : w0.heap.size ≤ R) (hn : x.bs.length ≤ 1000) (hr : rs.length ≤ 1000) :
    Calls Try.prog 52 #[.pointer (some ⟨t, 0, none⟩), .int .i64 k, .pointer (some ⟨b, 0, none⟩)] w fun z w' => z = .returned (.int .i64 0) ∧ ∃ lv' rv', TF w0 w' t mb base me k ⟨x.e, lv', x.bs ++ [b], 2, x.into⟩ n rv' (rs ++ [x.e]) b R rg := by
  obtain ⟨f, ht, hf⟩ := h.ts
  refine (tstart_yes ht hk hf hst hfr hn hr).mono ?_
  rintro z w' ⟨rfl, ⟨lv', rv', h1⟩, h2, kp⟩
  exact ⟨rfl, lv', rv', h.step kp (fun z e => e.elim (fun e => .inl (by rw [e]; exact hb)) .inr) ⟨_, h1, upd_at _ _ _⟩, h2, hR⟩
theorem tf_start_no (h : TF w0 w t mb base me k x n rv rs b R rg) (hk : wfk k) (hst : x.st ≠ 0) (b' : Nat) : Calls Try.prog 52 #[.pointer (some ⟨t, 0, none⟩), .int .i64 k, .pointer (some ⟨b', 0, none⟩)] w fun z w' => z = .returned (.int .i64 42) ∧ w' = w := by
  obtain ⟨f, ht, hf⟩ := h.ta.ts
  exact tstart_no ht hk hf hst b'
theorem tf_now (h : TF w0 w t mb base me k x n rv (r0 ++ [x.e]) b R rg) (hr : r0.length ≤ 1000) : Calls Try.prog 53 #[.pointer (some ⟨t, 0, none⟩)] w fun z w' => z = .returned (.pointer (some ⟨x.e, 0, none⟩)) ∧ TF w0 w' t mb base me k x n rv (r0 ++ [x.e]) b R rg ∧ w'.cell? ⟨x.e, 0, none⟩ = some (.int .i64 k) := by
  obtain ⟨f, ht, hf⟩ := h.ta.ts
  refine (now_any ht hr).mono ?_
  rintro z w' ⟨rfl, i, rfl⟩
  have hc : w.cell? ⟨x.e, 0, none⟩ = some (.int .i64 k) := (ht.en k x hf).stk.blk.cell rfl
  exact ⟨rfl, h.drew i, hc⟩
theorem tf_top (h : TF w0 w t mb base me k x n rv rs b R rg) {bs0 : List Nat} (hb : x.bs = bs0 ++ [b]) (hn : x.bs.length ≤ 1000) : Calls Try.prog 33 #[.pointer (some ⟨x.e, 1, none⟩)] w fun z w' => z = .returned (.pointer (some ⟨b, 0, none⟩)) ∧ TF w0 w' t mb base me k x n rv rs b R rg := by
  obtain ⟨f, ht, hf⟩ := h.ta.ts
  refine (top_some (ht.en k x hf).stk (b := b) (by rw [hb]; simp) (by omega)).mono ?_
  rintro z w' ⟨rfl, i, rfl⟩
  exact ⟨rfl, h.drew i⟩
theorem tf_susp (h : TF w0 w t mb base me k x n rv (r0 ++ [x.e]) b R rg) (hk : k ≠ -1) (hr : r0.length ≤ 1000) (j : Int) : Calls Try.prog 54 #[.pointer (some ⟨t, 0, none⟩), .int .i64 j] w fun z w' => z = .returned (.int .i64 0) ∧ ∃ rv', TF w0 w' t mb base me k ⟨x.e, x.lv, x.bs, 1, j⟩ n rv' r0 b R rg := by
  obtain ⟨f, ht, hf⟩ := h.ta.ts
  refine (tsusp_any ht hf hk hr j).mono ?_
  rintro z w' ⟨rfl, ⟨rv', h1⟩, kp⟩
  exact ⟨rfl, rv', h.ta.step kp (fun z e => .inr e) ⟨_, h1, upd_at _ _ _⟩, ht.frame (ht.en k x hf) kp h.fr, h.lR⟩
theorem tf_end (h : TF w0 w t mb base me k x n rv (r0 ++ [x.e]) b R rg) (hk : k ≠ -1) (hr : r0.length ≤ 1000) : Calls Try.prog 57 #[.pointer (some ⟨t, 0, none⟩)] w fun z w' => z = .returned (.int .i64 0) ∧ ∃ rv', TA w0 w' t mb base me k (some ⟨x.e, .slice none 0 0, [], 0, x.into⟩) n rv' r0 := by
  obtain ⟨f, ht, hf⟩ := h.ta.ts
  refine (tend_any ht hf hk hr).mono ?_
  rintro z w' ⟨rfl, ⟨rv', h1⟩, kp⟩
  exact ⟨rfl, rv', h.ta.step kp (fun z e => .inr e) ⟨_, h1, upd_at _ _ _⟩⟩
theorem tf_val (h : TF w0 w t mb base me k x n rv rs b R rg) (hk : wfk k) (hb : x.bs = [b]) (hst : x.st = 1) (hl : rg.length = 2) : Calls Try.prog 55 #[.pointer (some ⟨t, 0, none⟩), .int .i64 k] w fun z w' => ∃ A c, z = .returned (.slice A 5 c) ∧ TF w0 w' t mb base me k x n rv rs b R rg := by
  obtain ⟨f, ht, hf⟩ := h.ta.ts
  obtain ⟨l1, hl1, c1⟩ := fr_told h.fr (by omega)
  rw [hl, if_neg (by decide)] at hl1
  refine (tval_yes ht hk hf hst [l1] (by rw [hb]; rfl) (fun i b l hib hil => ?_) (n := 5) (by simp; omega) (by omega) (by rw [hb]; simp)).mono ?_
  · rw [hb] at hib
    match i with
    | 0 => simp at hib hil; subst hib hil; exact c1
    | i + 1 => simp at hib
  · rintro z w' ⟨A, c, rfl, hbe⟩
    exact ⟨A, c, rfl, h.below hbe⟩
theorem tf_wake (h : TF w0 w t mb base me k x n rv rs b R rg) (hk : wfk k) {bs0 : List Nat} {i : Nat} (hb : x.bs = bs0 ++ [b]) (hst : x.st = 1) (hi : x.into = i) (hil : i < rg.length) (hrl : rg.length ≤ 1000) (hn : x.bs.length ≤ 1000) (hr : rs.length ≤ 1000) (v : V) :
    Calls Try.prog 56 #[.pointer (some ⟨t, 0, none⟩), .int .i64 k, v.agg] w fun z w' => z = .returned (.int .i64 0) ∧ ∃ rv', TF w0 w' t mb base me k (runE x) n rv' (rs ++ [x.e]) b R (rg.set i v) := by
  obtain ⟨f, ht, hf⟩ := h.ta.ts
  refine (twake_yes ht hk hf hst hb hi h.fr hil hrl hn hr v).mono ?_
  rintro z w' ⟨rfl, ⟨rv', h1⟩, h2, kp⟩
  exact ⟨rfl, rv', h.ta.step kp (fun z e => e.elim (fun e => .inl (by rw [e]; exact h.lR)) .inr) ⟨_, h1, upd_at _ _ _⟩, h2, h.lR⟩
theorem tf_live (h : TF w0 w t mb base me k x n rv ([me] ++ [x.e]) b R rg) (hk : k ≠ -1) (hb : x.bs = [b]) (hl : rg.length = 2) : Calls Try.prog 64 #[.pointer (some ⟨t, 0, none⟩)] w fun z w' => ∃ A c, z = .returned (.slice A 6 c) ∧ TF w0 w' t mb base me k x n rv ([me] ++ [x.e]) b R rg := by
  obtain ⟨f, ht, hf⟩ := h.ta.ts
  obtain ⟨l1, hl1, c1⟩ := fr_told h.fr (by omega)
  rw [hl, if_neg (by decide)] at hl1
  refine (live_any ht [(-1, mainE me, []), (k, x, [l1])] (by simp) (fun i p hp => ?_) (N := 6) (by simp [totL, hk]; omega) (by omega) (by simp)).mono ?_
  · match i with
    | 0 =>
      simp at hp; subst hp
      exact ⟨rfl, ht.main, rfl, by simp [mainE], fun j b l h1 => by simp [mainE] at h1⟩
    | 1 =>
      simp at hp; subst hp
      refine ⟨rfl, ht.en k x hf, by simp [hb], by simp [hb], fun j b' l h1 h2 => ?_⟩
      simp only [hb] at h1
      match j with
      | 0 => simp at h1 h2; subst h1 h2; exact c1
      | j + 1 => simp at h1
    | i + 2 => simp at hp
  · rintro z w' ⟨A, c, rfl, hbe⟩
    exact ⟨A, c, rfl, h.below hbe⟩
theorem ta_cells (h : TA w0 w t mb base me k o n rv rs) (hn : n ≤ 1000) : Calls Try.prog 63 #[.pointer (some ⟨t, 0, none⟩)] w fun z w' => ∃ A c, z = .returned (.slice A n c) ∧ TA w0 w' t mb base me k o n rv rs := by
  obtain ⟨f, ht, hf⟩ := h.ts
  refine (tcells_any ht hn).mono ?_
  rintro z w' ⟨A, c, rfl, hbe⟩
  exact ⟨A, c, rfl, h.below hbe⟩
theorem ta_drop (h : TA w0 w t mb base me k (some x) n rv rs) (hk : wfk k) (hb : x.bs = []) : Calls Try.prog 61 #[.pointer (some ⟨t, 0, none⟩), .int .i64 k] w fun z w' => z = .returned (.int .i64 0) ∧ Below w0.heap.size w0 w' := by
  obtain ⟨f, ht, hf⟩ := h.ts
  refine (tdrop_any ht hk).mono ?_
  rintro z w' ⟨rfl, h1, kp⟩
  rw [hf]
  exact ⟨by simp [tdropN, hb], kpb h.bel (kp.mono (fun z _ (e : z = mb) => by subst e; exact Nat.le_trans h.lo ht.lo.2))⟩
theorem TF.reg (h : TF w0 w t mb base me k x n rv rs b R rg) {i : Nat} {v : V} (hi : rg[i]? = some v) : w.cell? ⟨b, 7, none⟩ = some (.slice (some ⟨R, 0, none⟩) rg.length rg.length) ∧ w.cell? ⟨R, i * 3, none⟩ = some (.int .i64 v.k) ∧ w.cell? ⟨R, i * 3 + 1, none⟩ = some (.int .i64 v.n) ∧ w.cell? ⟨R, i * 3 + 2, none⟩ = some (.string v.s) := by
  obtain ⟨hR, fn, cl, se, pc, dst, ex, hb⟩ := h.fr
  obtain ⟨v0, v1, v2⟩ := vcs_at hi
  exact ⟨hb.cell rfl, hR.cell v0, hR.cell v1, hR.cell v2⟩
end
end Go.Proofs.Ytpcamgjfikipgaa
