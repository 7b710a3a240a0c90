/- thread.Threads: Suspend and End. Conditions: fewer than 1000 threads. -/
import Derived.Test.YtpcamgjfikipgaaThrMore
namespace Go.Proofs.Ytpcamgjfikipgaa
open Go.RowKit
set_option linter.unusedVariables false
section
variable {w : World} {t mb base : Nat} {m : TE} {f : Int → Option TE} {sz : Nat} {rv : Value} {rs : List Nat} {k : Int}
theorem ran_off {g n c : Nat} {x y : TE} (h : TS w t mb base m f sz (.slice (some ⟨g, 0, none⟩) (n + 1) c) (rs ++ [x.e])) (hn : rs.length = n) (hf : f k = some x) (he : y.e = x.e) (hy : y.lv = x.lv ∧ y.bs = x.bs ∨ y.lv = .slice none 0 0 ∧ y.bs = [])
    {W1 w' : World} (k1 : Kp (fun b => b = x.e) w W1) (hb1 : Blk W1 x.e 101 (thc k y)) (hw : w'.os = W1.os ∧ w'.tape = W1.tape ∧ w'.output = W1.output ∧ w'.heap = (W1.setCell ⟨t, 1, none⟩ (.slice (some ⟨g, 0, none⟩) n c)).heap) :
    TS w' t mb base m (upd f k (some y)) sz (.slice (some ⟨g, 0, none⟩) n c) rs ∧ Kp (thS t mb x (.slice (some ⟨g, 0, none⟩) (n + 1) c)) w w' := by
  obtain ⟨e1, e2, e3, e4⟩ := hw
  have hx := h.en k x hf
  have hne : x.e ≠ t := blk_ne hx.stk.blk h.box (by decide)
  have k2 : Kp (fun b => b = t) W1 w' := by
    have q : Kp (fun b => b = t) W1 (W1.setCell ⟨t, 1, none⟩ (.slice (some ⟨g, 0, none⟩) n c)) := (Kp.refl (fun b => b = t) W1).setCell (p := ⟨t, 1, none⟩) (.inr rfl) _
    exact ⟨e1, e2, e3, by rw [e4]; exact q.size, fun b hb hn => by rw [e4]; exact q.block b hb hn⟩
  have k3 : Kp (fun b => b = x.e ∨ b = t) w w' := (k1.mono (T := fun b => b = x.e ∨ b = t) (fun _ _ e => .inl e)).trans k2 (fun _ _ e => .inr e)
  have hbox1 : Blk W1 t 124 [.map (some mb), .slice (some ⟨g, 0, none⟩) (n + 1) c] := h.box.kp k1 (fun (e : t = x.e) => hne e.symm)
  have hbox : Blk w' t 124 [.map (some mb), .slice (some ⟨g, 0, none⟩) n c] := by
    have q := hbox1.set_ 1 (.slice (some ⟨g, 0, none⟩) n c)
    unfold Blk at q ⊢
    rw [e4]; exact q
  have hrun := h.run
  rw [List.length_append, List.length_singleton, hn, List.map_append, List.map_singleton] at hrun
  have hpop := ownsRow_pop (by simp [hn]) hrun
  have hgx : ∀ q, (Value.slice (some ⟨g, 0, none⟩) n c).ownBlock = some q → ¬ (q = x.e ∨ q = t) := fun q hq e => e.elim (fun e => own_ne_blk hpop hq hx.stk.blk (by decide) e) (fun e => own_ne_blk hpop hq h.box (by decide) e)
  have hown := own_kp hpop k3 hgx
  rw [← hn] at hown
  have hyy : ThE w' base k y := by
    have hbl : Blk w' y.e 101 (thc k y) := by rw [he]; exact hb1.kp k2 hne
    have hlo : base ≤ w'.heap.size := Nat.le_trans hx.stk.lo k3.size
    rcases hy with ⟨h1, h2⟩ | ⟨h1, h2⟩
    · refine ⟨⟨hbl, rfl, ?_, by rw [h1, he]; exact hx.stk.ne, hlo⟩, by rw [he]; exact hx.lo⟩
      rw [h1, h2]
      exact own_kp hx.stk.own k3 (fun q hq e => e.elim (fun e => own_ne_blk hx.stk.own hq hx.stk.blk (by decide) e) (fun e => own_ne_blk hx.stk.own hq h.box (by decide) e))
    · refine ⟨⟨hbl, rfl, ?_, by rw [h1]; simp [Value.ownBlock], hlo⟩, by rw [he]; exact hx.lo⟩
      rw [h1, h2]
      exact World.ownsRow_nil _ _ _ _
  refine ⟨h.turn hf he (fun b e => by rcases e with e | e <;> simp [e]) k3 hyy (fun q hq => ?_) hbox (by rw [hn] at hown ⊢; exact hown), k3.mono (fun b _ e => by rcases e with e | e <;> simp [thS, e])⟩
  rcases hy with ⟨h1, _⟩ | ⟨h1, _⟩
  · left; rw [← h1]; exact hq
  · rw [h1] at hq; cases hq
theorem tsusp_main (h : TS w t mb base m f sz rv (rs ++ [m.e])) (hn : rs.length ≤ 1000) (j : Int) : Calls Try.prog 54 #[.pointer (some ⟨t, 0, none⟩), .int .i64 j] w fun e w' => e = .returned (.int .i64 42) ∧ ∃ n, w' = w.drewN n := by
  have c0 : w.cell? ⟨m.e, 0, none⟩ = some (.int .i64 (-1)) := h.main.stk.blk.cell rfl
  have H := Lib.hid h
  clear h
  go_enter Try.func54, Try.ntmps54
  go_wp2_with (go_at_call 53; refine (now_any H.out hn).mono ?_; rintro e w2 ⟨rfl, nn, rfl⟩)
  go_ret
  exact ⟨rfl, _, rfl⟩
theorem tend_main (h : TS w t mb base m f sz rv (rs ++ [m.e])) (hn : rs.length ≤ 1000) : Calls Try.prog 57 #[.pointer (some ⟨t, 0, none⟩)] w fun e w' => e = .returned (.int .i64 42) ∧ ∃ n, w' = w.drewN n := by
  have c0 : w.cell? ⟨m.e, 0, none⟩ = some (.int .i64 (-1)) := h.main.stk.blk.cell rfl
  have H := Lib.hid h
  clear h
  go_enter Try.func57, Try.ntmps57
  go_wp2_with (go_at_call 53; refine (now_any H.out hn).mono ?_; rintro e w2 ⟨rfl, nn, rfl⟩)
  go_ret
  exact ⟨rfl, _, rfl⟩
set_option maxRecDepth 100000 in
theorem tsusp_any {x : TE} (h : TS w t mb base m f sz rv (rs ++ [x.e])) (hf : f k = some x) (hk : k ≠ -1) (hn : rs.length ≤ 1000) (j : Int) :
    Calls Try.prog 54 #[.pointer (some ⟨t, 0, none⟩), .int .i64 j] w fun e w' => e = .returned (.int .i64 0) ∧ (∃ rv', TS w' t mb base m (upd f k (some ⟨x.e, x.lv, x.bs, 1, j⟩)) sz rv' rs) ∧ Kp (thS t mb x rv) w w' := by
  have hx := h.en k x hf
  have c0 : w.cell? ⟨x.e, 0, none⟩ = some (.int .i64 k) := hx.stk.blk.cell rfl
  have c2 : w.cell? ⟨x.e, 2, none⟩ = some (.int .i64 x.st) := hx.stk.blk.cell rfl
  have c3 : w.cell? ⟨x.e, 3, none⟩ = some (.int .i64 x.into) := hx.stk.blk.cell rfl
  have f2 := hx.stk.blk.frozen 2
  have f3 := hx.stk.blk.frozen 3
  have hne : x.e ≠ t := blk_ne hx.stk.blk h.box (by decide)
  have hne' : t ≠ x.e := fun e => hne e.symm
  have H := Lib.hid h
  have HF := Lib.hid hf
  have HX := Lib.hid hx
  obtain ⟨g, c, hrv, hlc, hr⟩ := h.last
  subst hrv
  have d1 := h.box.cell (i := 1) rfl
  have g1 := h.box.frozen 1
  have q1 : (k == -1) = false := by simpa using hk
  have q1b : decide (k = -1) = false := decide_eq_false hk
  obtain ⟨n, hN⟩ : ∃ n, rs.length = n := ⟨_, rfl⟩
  have HN := Lib.hid hN
  rw [hN] at d1 hlc hn H hr
  have h2 : IntKind.i64.wrap (((n + 1 : Nat) : Int) - 1) = (n : Int) := by rw [IntWalk.i64_in _ (by omega)]; omega
  have h3 : (0 : Int) ≤ (n : Int) := by omega
  have hnc : (n : Int) ≤ (c : Int) := by omega
  have hgl := h.box.lt
  have hel := hx.stk.blk.lt
  clear h hf hx hN hk hr
  go_enter Try.func54, Try.ntmps54
  go_wp2_with (go_at_call 53; refine (now_any H.out (by have := HN.out; omega)).mono ?_; rintro e w2 ⟨rfl, nn, rfl⟩)
  go_region
  go_wp2
  go_ret
  have k1 : Kp (fun b => b = x.e) w (((w.drewN nn).setCell ⟨x.e, 2, none⟩ (.int .i64 1)).setCell ⟨x.e, 3, none⟩ (.int .i64 j)) := (((Kp.refl (fun b => b = x.e) w).drewN nn).setCell (p := ⟨x.e, 2, none⟩) (.inr rfl) _).setCell (p := ⟨x.e, 3, none⟩) (.inr rfl) _
  have hb1 : Blk (((w.drewN nn).setCell ⟨x.e, 2, none⟩ (.int .i64 1)).setCell ⟨x.e, 3, none⟩ (.int .i64 j)) x.e 101 (thc k ⟨x.e, x.lv, x.bs, 1, j⟩) := ((HX.out.stk.blk.drewN nn).set_ 2 (.int .i64 1)).set_ 3 (.int .i64 j)
  have hfin := fun w' hw => ran_off (y := ⟨x.e, x.lv, x.bs, 1, j⟩) (w' := w') H.out HN.out HF.out rfl (.inl ⟨rfl, rfl⟩) k1 hb1 hw
  refine ⟨rfl, ⟨_, (hfin _ ?_).1⟩, (hfin _ ?_).2⟩ <;> exact ⟨rfl, rfl, rfl, rfl⟩
set_option maxRecDepth 100000 in
theorem tend_any {x : TE} (h : TS w t mb base m f sz rv (rs ++ [x.e])) (hf : f k = some x) (hk : k ≠ -1) (hn : rs.length ≤ 1000) :
    Calls Try.prog 57 #[.pointer (some ⟨t, 0, none⟩)] w fun e w' => e = .returned (.int .i64 0) ∧ (∃ rv', TS w' t mb base m (upd f k (some ⟨x.e, .slice none 0 0, [], 0, x.into⟩)) sz rv' rs) ∧ Kp (thS t mb x rv) w w' := by
  have hx := h.en k x hf
  have c0 : w.cell? ⟨x.e, 0, none⟩ = some (.int .i64 k) := hx.stk.blk.cell rfl
  have c1 : w.cell? ⟨x.e, 1, none⟩ = some x.lv := hx.stk.cell
  have c2 : w.cell? ⟨x.e, 2, none⟩ = some (.int .i64 x.st) := hx.stk.blk.cell rfl
  have f2 := hx.stk.blk.frozen 2
  have f1 := hx.stk.blk.frozen 1
  have hne : x.e ≠ t := blk_ne hx.stk.blk h.box (by decide)
  have hne' : t ≠ x.e := fun e => hne e.symm
  have H := Lib.hid h
  have HF := Lib.hid hf
  have HX := Lib.hid hx
  obtain ⟨g, c, hrv, hlc, hr⟩ := h.last
  subst hrv
  have d1 := h.box.cell (i := 1) rfl
  have g1 := h.box.frozen 1
  have q1 : (k == -1) = false := by simpa using hk
  have q1b : decide (k = -1) = false := decide_eq_false hk
  obtain ⟨n, hN⟩ : ∃ n, rs.length = n := ⟨_, rfl⟩
  have HN := Lib.hid hN
  rw [hN] at d1 hlc hn H hr
  have h2 : IntKind.i64.wrap (((n + 1 : Nat) : Int) - 1) = (n : Int) := by rw [IntWalk.i64_in _ (by omega)]; omega
  have h3 : (0 : Int) ≤ (n : Int) := by omega
  have hnc : (n : Int) ≤ (c : Int) := by omega
  have hgl := h.box.lt
  have hel := hx.stk.blk.lt
  clear h hf hx hN hk hr
  go_enter Try.func57, Try.ntmps57
  go_wp2_with (go_at_call 53; refine (now_any H.out (by have := HN.out; omega)).mono ?_; rintro e w2 ⟨rfl, nn, rfl⟩)
  go_region
  go_wp2
  go_ret
  have k1 : Kp (fun b => b = x.e) w (((w.drewN nn).setCell ⟨x.e, 2, none⟩ (.int .i64 0)).setCell ⟨x.e, 1, none⟩ (.slice none 0 0)) := (((Kp.refl (fun b => b = x.e) w).drewN nn).setCell (p := ⟨x.e, 2, none⟩) (.inr rfl) _).setCell (p := ⟨x.e, 1, none⟩) (.inr rfl) _
  have hb1 : Blk (((w.drewN nn).setCell ⟨x.e, 2, none⟩ (.int .i64 0)).setCell ⟨x.e, 1, none⟩ (.slice none 0 0)) x.e 101 (thc k ⟨x.e, .slice none 0 0, [], 0, x.into⟩) := ((HX.out.stk.blk.drewN nn).set_ 2 (.int .i64 0)).set_ 1 (.slice none 0 0)
  have hfin := fun w' hw => ran_off (y := ⟨x.e, .slice none 0 0, [], 0, x.into⟩) (w' := w') H.out HN.out HF.out rfl (.inr ⟨rfl, rfl⟩) k1 hb1 hw
  refine ⟨rfl, ⟨_, (hfin _ ?_).1⟩, (hfin _ ?_).2⟩ <;> exact ⟨rfl, rfl, rfl, rfl⟩
end
end Go.Proofs.Ytpcamgjfikipgaa
