/- thread.Threads: Name, New, State, Add, Now, Deep, run, Start, and dreylaw26.one. Conditions: fewer than 1000 threads and functions. -/
import Derived.Test.YtpcamgjfikipgaaThr
namespace Go.Proofs.Ytpcamgjfikipgaa
open Go.RowKit
set_option linter.unusedVariables false
theorem tname1 (w : World) : Calls Try.prog 65 #[.int .i64 1] w fun e w' => e = .returned (.string ⟨#[115, 117, 115, 112, 101, 110, 100, 101, 100]⟩) ∧ w' = w := by
  go_enter Try.func65, Try.ntmps65
  go_wp2
  go_ret
  exact ⟨rfl, rfl⟩
theorem tname2 (w : World) : Calls Try.prog 65 #[.int .i64 2] w fun e w' => e = .returned (.string ⟨#[114, 117, 110, 110, 105, 110, 103]⟩) ∧ w' = w := by
  go_enter Try.func65, Try.ntmps65
  go_wp2
  go_ret
  exact ⟨rfl, rfl⟩
theorem tname0 (k : Int) (h0 : k ≠ 1) (h1 : k ≠ 2) (w : World) : Calls Try.prog 65 #[.int .i64 k] w fun e w' => e = .returned (.string ⟨#[105, 100, 108, 101]⟩) ∧ w' = w := by
  have q0 : (k == 1) = false := by simpa using h0
  have q0b : decide (k = 1) = false := decide_eq_false h0
  have q1 : (k == 2) = false := by simpa using h1
  have q1b : decide (k = 2) = false := decide_eq_false h1
  clear h0 h1
  go_enter Try.func65, Try.ntmps65
  go_wp2
  go_ret
  exact ⟨rfl, rfl⟩
theorem one_any60 (k : Int) (w : World) : Calls Try.prog 60 #[.int .i64 k] w fun e w' => ∃ b R, e = .returned (.pointer (some ⟨b, 0, none⟩)) ∧ w.heap.size ≤ b ∧ w.heap.size ≤ R ∧ FrG w' b R (List.replicate 2 V.null) 0 (-1) ∧ Below w.heap.size w w' := by
  go_enter Try.func60, Try.ntmps60
  go_wp2_with (first
    | (go_at_call 18; refine (null_any _).mono ?_; rintro e w3 ⟨rfl, rfl⟩; unfold V.agg V.null)
    | (go_at_call 14; refine (int_any _ _).mono ?_; rintro e w3 ⟨rfl, rfl⟩; unfold V.agg V.int; try simp only)
    | (go_at_call 16; refine (new_fr _ _ _ _ _ _ _ _ 2 _ V.null (V.int k) _ (by omega)).mono ?_; rintro e w3 ⟨b, R, rfl, hbb, hRR, hfr, hbe⟩; have H3 := Lib.hid (And.intro hbb (And.intro hRR (And.intro hfr hbe))); clear hbb hRR hfr hbe))
  go_ret
  obtain ⟨h1, h2, h3, h4⟩ := H3.out
  simp at h1 h2
  exact ⟨b, R, rfl, by omega, by omega, h3, (below_alloc (below_alloc (Below.refl _ _) _) _).trans (h4.mono (by simp; omega))⟩
theorem info102 : (Try.prog.info? 102).map (fun i => (i.zero, i.size, i.bytes)) = some (some (.pointer none), 1, 8) := by kernel_rfl
/-- The whole's thread. -/
def mainE (e : Nat) : TE := ⟨e, .slice none 0 0, [], 2, 0⟩
set_option maxRecDepth 100000 in
theorem threads_new (w : World) : Calls Try.prog 50 #[] w fun e w' => ∃ t mb me rv, e = .returned (.pointer (some ⟨t, 0, none⟩)) ∧ TS w' t mb w.heap.size (mainE me) (fun _ => none) 0 rv [me] ∧ Below w.heap.size w w' := by
  have hmm := @run_makeMap Try.prog
  go_enter Try.func50, Try.ntmps50
  go_wp2
  go_ret
  refine ⟨w.heap.size + 1 + 1 + 1, w.heap.size + 1, w.heap.size, .slice (some ⟨w.heap.size + 1 + 1, 0, none⟩) 1 1, rfl, ?_, below_alloc (below_alloc (below_alloc (below_alloc (Below.refl _ _) _) _) _) _⟩
  have k4 : ∀ (W : World) (o : Obj), Kp (fun _ => False) W (W.alloc o) := fun W o => (Kp.refl _ W).alloc o
  have hmb := IM.new elP (w.alloc (.cells #[.int .i64 (-1), .slice none 0 0, .int .i64 2, .int .i64 0] 101))
  have hme : Blk (w.alloc (.cells #[.int .i64 (-1), .slice none 0 0, .int .i64 2, .int .i64 0] 101)) w.heap.size 101 (thc (-1) (mainE w.heap.size)) := Blk.made rfl 101 (thc (-1) (mainE w.heap.size))
  refine ⟨Blk.made (by simp) 124 _, ?_, ⟨⟨((hme.alloc _).alloc _).alloc _, rfl, World.ownsRow_nil _ _ _ _, by simp [mainE, Value.ownBlock], by simp; omega⟩, Nat.le_refl _⟩, rfl, fun k x hx => (by cases hx), ?_, fun k x hx => (by cases hx), fun k k' x y hx => (by cases hx), ⟨by omega, by omega⟩⟩
  · have h2 := (hmb.kp (k4 _ (.cells #[.pointer (some ⟨w.heap.size, 0, none⟩)] 102)) id).kp (k4 _ (.cells #[.map (some (w.heap.size + 1)), .slice (some ⟨w.heap.size + 1 + 1, 0, none⟩) 1 1] 124)) id
    simpa using h2
  · refine own_kp (S := fun _ => False) ?_ (k4 _ _) (fun _ _ => id)
    refine ⟨rfl, .inr ⟨w.heap.size + 1 + 1, 1, #[.pointer (some ⟨w.heap.size, 0, none⟩)], rfl, by omega, ?_, Nat.le_refl _, by unfold maxLen; omega, rfl, rfl⟩⟩
    have := heap_alloc_new ((w.alloc (.cells #[.int .i64 (-1), .slice none 0 0, .int .i64 2, .int .i64 0] 101)).alloc (.map #[] 0)) (.cells #[.pointer (some ⟨w.heap.size, 0, none⟩)] 102)
    simpa using this
section
variable {w : World} {t mb base : Nat} {m : TE} {f : Int → Option TE} {sz : Nat} {rv : Value} {rs : List Nat} {k : Int}
theorem zero102 (W : World) : (zeroValue 102).run Try.prog W = .ok (elP.val none) W := by
  simp [zeroValue, elP, Try.t102]
theorem TS.look (h : TS w t mb base m f sz rv rs) (hk : wfk k) : (Instr.lookup 121 (.map (some mb)) (.int .i64 k) false).run Try.prog w = .ok (match f k with | some x => .pointer (some ⟨x.e, 0, none⟩) | none => .pointer none) w := by
  rw [h.im.look Try.underlying121 zero102 hk]
  rcases f k with _ | x <;> rfl
theorem tstate_none (h : TS w t mb base m f sz rv rs) (hk : wfk k) (hf : f k = none) : Calls Try.prog 58 #[.pointer (some ⟨t, 0, none⟩), .int .i64 k] w fun e w' => e = .returned (.int .i64 0) ∧ w' = w := by
  have hb := h.box.cell (i := 0) rfl
  have hl := h.look hk
  rw [hf] at hl
  simp only at hl
  have hnn := fun W => run_neq_nil_nil (P := Try.prog) W (tp := 102) Try.underlying102
  clear h hk hf
  go_enter Try.func58, Try.ntmps58
  go_wp2
  go_ret
  exact ⟨rfl, rfl⟩
theorem tstate_some (h : TS w t mb base m f sz rv rs) (hk : wfk k) {x : TE} (hf : f k = some x) : Calls Try.prog 58 #[.pointer (some ⟨t, 0, none⟩), .int .i64 k] w fun e w' => e = .returned (.int .i64 x.st) ∧ w' = w := by
  have hb := h.box.cell (i := 0) rfl
  have hl := h.look hk
  rw [hf] at hl
  simp only at hl
  have hx2 : w.cell? ⟨x.e, 2, none⟩ = some (.int .i64 x.st) := (h.en k x hf).stk.blk.cell rfl
  have hnn := fun W => run_neq_ptr_none (P := Try.prog) W (tp := 102) ⟨x.e, 0, none⟩ Try.underlying102
  clear h hk hf
  go_enter Try.func58, Try.ntmps58
  go_wp2
  go_ret
  exact ⟨rfl, rfl⟩
/-- One thread more. -/
def idleE (e : Nat) : TE := ⟨e, .slice none 0 0, [], 0, 0⟩
set_option maxRecDepth 100000 in
theorem tadd_any (h : TS w t mb base m f sz rv rs) (hk : wfk k) (hf : f k = none) (hs : sz < 1000) :
    Calls Try.prog 51 #[.pointer (some ⟨t, 0, none⟩), .int .i64 k] w fun e w' => e = .returned (.tuple #[]) ∧ TS w' t mb base m (upd f k (some (idleE w.heap.size))) (sz + 1) rv rs ∧ Kp (fun b => b = mb) w w' := by
  have hlo := h.lo
  have htl := h.box.lt
  have hml := h.im.lt
  have k1 : Kp (fun b => b = mb) w (w.alloc (.cells #[.int .i64 k, .slice none 0 0, .int .i64 0, .int .i64 0] 101)) := (Kp.refl _ w).alloc _
  have him2 := h.im.below (below_alloc (Below.refl _ _) (.cells #[.int .i64 k, .slice none 0 0, .int .i64 0, .int .i64 0] 101))
  obtain ⟨w3, hrun, him3, hg3, hsz3⟩ := him2.put Try.underlying121 (by omega) hk (some w.heap.size)
  rw [elP_some] at hrun
  have k3 : Kp (fun b => b = mb) w w3 := k1.trans (Kp.of_grown hg3 (S := fun x => x = mb) (fun g e => by injection e with e; exact e.symm)) (fun _ _ h => h)
  rw [hf] at him3
  have hnew : Blk w3 w.heap.size 101 (thc k (idleE w.heap.size)) := by
    have h0 : Blk (w.alloc (.cells #[.int .i64 k, .slice none 0 0, .int .i64 0, .int .i64 0] 101)) w.heap.size 101 (thc k (idleE w.heap.size)) := Blk.made rfl 101 (thc k (idleE w.heap.size))
    exact h0.kp (Kp.of_grown hg3 (S := fun x => x = mb) (fun g e => by injection e with e; exact e.symm)) (fun (e : w.heap.size = mb) => by omega)
  have key : ∀ j z, (upd f k (some (idleE w.heap.size))) j = some z → (j = k ∧ z = idleE w.heap.size) ∨ (j ≠ k ∧ f j = some z) := fun j z hz => by
    unfold upd at hz; split at hz
    · rename_i hj; injection hz with hz; exact .inl ⟨hj, hz.symm⟩
    · rename_i hj; exact .inr ⟨hj, hz⟩
  have hth : ∀ {j : Int} {x : TE}, ThE w base j x → ThE w3 base j x := fun {j x} hx => hx.kp k3 (fun (e : x.e = mb) => im_ne hx.stk.blk h.im e) (fun q hq (e : q = mb) => own_ne_im hx.stk.own hq h.im e)
  have hts : TS w3 t mb base m (upd f k (some (idleE w.heap.size))) (sz + 1) rv rs := by
    refine ⟨h.box.kp k3 (im_ne h.box h.im), ?_, hth h.main, h.mlv, fun j z hz => ?_, own_kp h.run k3 (fun q hq (e : q = mb) => own_ne_im h.run hq h.im e), fun j z hz => ?_, fun j j' z z' hz hz' hjj => ?_, h.lo⟩
    · have e : (fun j => ((upd f k (some (idleE w.heap.size))) j).map (fun x => some x.e)) = upd (fun j => (f j).map (fun x => some x.e)) k (some (some w.heap.size)) := by
        funext j; unfold upd; split <;> rfl
      rw [e]
      simpa using him3
    · rcases key j z hz with ⟨rfl, rfl⟩ | ⟨hj, hz2⟩
      · exact ⟨⟨hnew, rfl, World.ownsRow_nil _ _ _ _, by simp [idleE, Value.ownBlock], by have := k3.size; omega⟩, by show base ≤ w.heap.size; omega⟩
      · exact hth (h.en j z hz2)
    · rcases key j z hz with ⟨rfl, rfl⟩ | ⟨hj, hz2⟩
      · have := h.main.stk.blk.lt; show w.heap.size ≠ m.e; omega
      · exact h.apartM j z hz2
    · rcases key j z hz with ⟨hj, e1⟩ | ⟨hj, hz2⟩
      · rcases key j' z' hz' with ⟨hj', e2⟩ | ⟨hj', hz2'⟩
        · exact absurd (hj.trans hj'.symm) hjj
        · subst e1
          have := (h.en j' z' hz2').stk.blk.lt
          exact ⟨by show w.heap.size ≠ z'.e; omega, fun q hq => by cases hq⟩
      · rcases key j' z' hz' with ⟨hj', e2⟩ | ⟨hj', hz2'⟩
        · subst e2
          have := (h.en j z hz2).stk.blk.lt
          exact ⟨by show z.e ≠ w.heap.size; omega, fun q hq e => by cases e⟩
        · exact h.apart j j' z z' hz2 hz2' hjj
  have HT := Lib.hid (And.intro hts k3)
  have hb := h.box.cell (i := 0) rfl
  clear hts k3 hnew him3 him2 h hlo hf key hth k1 hg3 hsz3 hml hs hk
  go_enter Try.func51, Try.ntmps51
  go_wp2
  go_end0
  exact ⟨rfl, HT.out⟩
theorem TS.last {e : Nat} (h : TS w t mb base m f sz rv (rs ++ [e])) : ∃ g c, rv = .slice (some ⟨g, 0, none⟩) (rs.length + 1) c ∧ rs.length + 1 ≤ c ∧ w.cell? ⟨g, rs.length, none⟩ = some (.pointer (some ⟨e, 0, none⟩)) := by
  have ho := h.run
  have hl : (rs ++ [e]).length = rs.length + 1 := by simp
  rcases ho.2 with ⟨_, h0⟩ | ⟨g, cap, cur, hrv, hb, hg, hcap, _⟩
  · simp at h0
  · rw [hl] at hrv hcap
    have hc := World.ownsRow.cells ho (g := g) (by rw [hrv]; rfl) rs.length (ptr e) (by simp)
    rw [add_lit, Nat.zero_add] at hc
    exact ⟨g, cap, hrv, hcap, hc⟩
set_option maxRecDepth 100000 in
theorem now_any {e : Nat} (h : TS w t mb base m f sz rv (rs ++ [e])) (hn : rs.length ≤ 1000) : Calls Try.prog 53 #[.pointer (some ⟨t, 0, none⟩)] w fun x w' => x = .returned (.pointer (some ⟨e, 0, none⟩)) ∧ ∃ n, w' = w.drewN n := by
  obtain ⟨g, c, rfl, hlc, hr⟩ := h.last
  have hc := h.box.cell (i := 1) rfl
  obtain ⟨n, hN⟩ : ∃ n, rs.length = n := ⟨_, rfl⟩
  rw [hN] at hc hr hlc hn
  have h2 : IntKind.i64.wrap (((n + 1 : Nat) : Int) - 1) = (n : Int) := by rw [IntWalk.i64_in _ (by omega)]; omega
  have h3 : (0 : Int) ≤ (n : Int) := by omega
  clear h hN hlc
  go_enter Try.func53, Try.ntmps53
  go_wp2
  go_quiet (fail)
  go_wp2
  go_ret
  exact ⟨rfl, _, rfl⟩
theorem deep_any (h : TS w t mb base m f sz rv rs) : Calls Try.prog 62 #[.pointer (some ⟨t, 0, none⟩)] w fun x w' => x = .returned (.int .i64 rs.length) ∧ w' = w := by
  obtain ⟨A, c, rfl⟩ : ∃ A c, rv = .slice A rs.length c := by
    rcases h.run.2 with ⟨rfl, h0⟩ | ⟨g, cap, cur, rfl, _⟩
    · rw [h0]; exact ⟨_, _, rfl⟩
    · exact ⟨_, _, rfl⟩
  have hc := h.box.cell (i := 1) rfl
  clear h
  go_enter Try.func62, Try.ntmps62
  go_wp2
  go_ret
  exact ⟨rfl, rfl⟩
theorem Stk.re {w w' : World} {S : Nat → Prop} {e base : Nat} {cs cs' : List Value} {lv : Value} {bs : List Nat} (h : Stk w e 101 cs 1 base lv bs) (k : Kp S w w') (hb : Blk w' e 101 cs') (ha : cs'[1]? = some lv) (hn : ∀ q, lv.ownBlock = some q → ¬ S q) : Stk w' e 101 cs' 1 base lv bs :=
  ⟨hb, ha, own_kp h.own k hn, h.ne, Nat.le_trans h.lo k.size⟩
/-- Thread x runs. -/
def runE (x : TE) : TE := ⟨x.e, x.lv, x.bs, 2, x.into⟩
set_option maxRecDepth 100000 in
theorem trun_any (h : TS w t mb base m f sz rv rs) {x : TE} (hf : f k = some x) (hn : rs.length ≤ 1000) :
    Calls Try.prog 70 #[.pointer (some ⟨t, 0, none⟩), .pointer (some ⟨x.e, 0, none⟩)] w fun e w' => e = .returned (.int .i64 0) ∧ (∃ rv', TS w' t mb base m (upd f k (some (runE x))) sz rv' (rs ++ [x.e])) ∧ Kp (thS t mb x rv) w w' := by
  obtain ⟨i0, hi, hz0, hz1, hz2⟩ := info_parts info102
  have hx := h.en k x hf
  have hne : x.e ≠ t := blk_ne hx.stk.blk h.box (by decide)
  have c1 := h.box.cell (i := 1) rfl
  have g1 := h.box.frozen 1
  have g2 := hx.stk.blk.frozen 2
  have c2 : w.cell? ⟨x.e, 2, none⟩ = some (.int .i64 x.st) := hx.stk.blk.cell rfl
  have hk1 : Kp (fun b => b = x.e) w (w.setCell ⟨x.e, 2, none⟩ (.int .i64 2)) := (Kp.refl (fun b => b = x.e) w).setCell (p := ⟨x.e, 2, none⟩) (.inr rfl) _
  have ho1 := own_kp h.run hk1 (fun q hq (e : q = x.e) => own_ne_blk h.run hq hx.stk.blk (by decide) e)
  have HO := Lib.hid (ho1.alloc (.cells #[.pointer (some ⟨x.e, 0, none⟩)] 102))
  have hlow : base ≤ w.heap.size := by have := h.lo.1; have := h.box.lt; omega
  have H := Lib.hid (And.intro h (And.intro hx (And.intro hf hk1)))
  have htl := h.box.lt
  have hel := hx.stk.blk.lt
  clear h hx hf hk1 ho1
  have hkx : ∀ (w1 : World), ((w.setCell ⟨x.e, 2, none⟩ (.int .i64 2)).alloc (.cells #[.pointer (some ⟨x.e, 0, none⟩)] 102)).grownBy w1 rv.ownBlock → Kp (fun b => b = x.e ∨ rv.ownBlock = some b) w w1 := fun w1 hg => ((H.out.2.2.2.mono (fun b _ e => .inl e)).alloc _).trans (Kp.of_grown hg (S := fun b => rv.ownBlock = some b) (fun g e => e)) (fun b _ e => .inr e)
  have htn : ¬ (t = x.e ∨ rv.ownBlock = some t) := fun e => e.elim (fun e => hne e.symm) (fun e => own_ne_blk H.out.1.run e H.out.1.box (by decide) rfl)
  have HKX := Lib.hid hkx
  have HTN := Lib.hid htn
  clear hkx htn
  go_enter Try.func70, Try.ntmps70
  go_wp2_with (at_builtin; refine wpList_append_rd rfl base (.tmp 12) (.tmp 14) 122 rfl 102 i0 (.pointer none) 1 8 Try.underlying122 hi hz0 hz1 hz2 rfl (by omega) rv rs.length (rs.map ptr) (by rfl) (by exact HO.out) (some ⟨w.heap.size, 0, none⟩) 1 1 [ptr x.e] (by rfl) (by exact Rd.of_blk (Blk.made (by simp) _ [ptr x.e]) rfl) (by intro u hu; simp [ptr] at hu; subst hu; rfl) (by unfold maxLen; omega) (by omega) (by simp; omega) ?_; intro v1 w1 hown1 hg1 hat1; obtain ⟨g3, c3, rfl, hlo1, hlt1⟩ := hown1.form (by omega); have k1 := HKX.out w1 hg1; have hc1 := (k1.cell (p := ⟨t, 1, none⟩) htl HTN.out).trans c1; have hf1 := (k1.frozen (p := ⟨t, 1, none⟩) htl HTN.out).trans g1; have F1 := Lib.hid (And.intro hown1 (And.intro hat1 (And.intro hlo1 (And.intro k1 (((Kp.refl (fun b => rv.ownBlock = some b) (w.setCell ⟨x.e, 2, none⟩ (.int .i64 2))).alloc _).trans (Kp.of_grown hg1 (S := fun b => rv.ownBlock = some b) (fun g e => e)) (fun b _ e => e)))))); clear hg1 hown1 hat1 hlo1 k1)
  go_ret
  obtain ⟨hts, hx, hf, _⟩ := H.out
  obtain ⟨hown1, hat1, hlo1, k1, _⟩ := F1.out
  have k2 : Kp (fun b => b = x.e ∨ rv.ownBlock = some b ∨ b = t) w (w1.setCell ⟨t, 1, none⟩ (.slice (some ⟨g3, 0, none⟩) (rs.length + 1) c3)) := (k1.mono (T := fun b => b = x.e ∨ rv.ownBlock = some b ∨ b = t) (fun b _ e => e.elim .inl (fun e => .inr (.inl e)))).setCell (p := ⟨t, 1, none⟩) (.inr (.inr (.inr rfl))) _
  have hsub : ∀ b, (b = x.e ∨ rv.ownBlock = some b ∨ b = t) → b = x.e ∨ x.lv.ownBlock = some b ∨ b = t ∨ rv.ownBlock = some b := fun b e => by rcases e with e | e | e <;> simp [e]
  refine ⟨rfl, ⟨.slice (some ⟨g3, 0, none⟩) (rs.length + 1) c3, ?_⟩, k2.mono (fun b _ e => by rcases e with e | e | e <;> simp [thS, e])⟩
  have hbox1 : Blk w1 t 124 [.map (some mb), rv] := hts.box.kp k1 HTN.out
  refine hts.turn hf (y := runE x) rfl hsub k2 ⟨?_, hx.lo⟩ (fun q hq => .inl hq) (hbox1.set_ 1 _) ?_
  · have hb1 : Blk (w.setCell ⟨x.e, 2, none⟩ (.int .i64 2)) x.e 101 (thc k (runE x)) := hx.stk.blk.set_ 2 (.int .i64 2)
    have kk : Kp (fun b => rv.ownBlock = some b ∨ b = t) (w.setCell ⟨x.e, 2, none⟩ (.int .i64 2)) (w1.setCell ⟨t, 1, none⟩ (.slice (some ⟨g3, 0, none⟩) (rs.length + 1) c3)) := (F1.out.2.2.2.2.mono (T := fun b => rv.ownBlock = some b ∨ b = t) (fun b _ e => .inl e)).setCell (p := ⟨t, 1, none⟩) (.inr (.inr rfl)) _
    refine hx.stk.re k2 (hb1.kp kk (fun e => e.elim (fun e => own_ne_blk hts.run e hx.stk.blk (by decide) rfl) (fun e => hne e))) rfl (fun q hq e => ?_)
    rcases e with e | e | e
    · exact own_ne_blk hx.stk.own hq hx.stk.blk (by decide) e
    · exact own_ne_own hx.stk.own hts.run (by decide) hq e
    · exact own_ne_blk hx.stk.own hq hts.box (by decide) e
  · have h1 : w1.ownsRow base 102 1 (.slice (some ⟨g3, 0, none⟩) (rs.length + 1) c3) (rs ++ [x.e]).length ((rs ++ [x.e]).map ptr) := by simpa using hown1
    refine h1.kept (row := some t) ⟨rfl, rfl, rfl, by simp [World.setCell], fun b _ hb => Below.heap_setCell _ _ _ _ (fun e => hb (by rw [e]))⟩ (.inr (fun e => own_ne_blk h1 e hbox1 (by decide) rfl))
end
end Go.Proofs.Ytpcamgjfikipgaa
