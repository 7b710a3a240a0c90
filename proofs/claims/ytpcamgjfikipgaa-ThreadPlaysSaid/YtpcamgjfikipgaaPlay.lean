/- GenPlays' state: the generators, and the law's own two maps, which say the same. Conditions: fewer than some thousands of keys. -/
import Derived.Test.YtpcamgjfikipgaaGGoes
namespace Go.Proofs.Ytpcamgjfikipgaa
open Go.RowKit Go.Maps
set_option linter.unusedVariables false
theorem IM.look2 {α : Type} {E : El α} {w : World} {b : Nat} {f : Int → Option α} {sz : Nat} (h : IM E w b f sz) {t e : TypeId} (ht : Try.prog.underlying t = some (.map 3 e)) {z : α} (hz : ∀ W, (zeroValue e).run Try.prog W = .ok (E.val z) W) {k : Int} (hk : wfk k) :
    (Instr.lookup t (.map (some b)) (.int .i64 k) true).run Try.prog w = .ok (.tuple #[E.val ((f k).getD z), .bool (f k).isSome]) w := by
  obtain ⟨D, h, h1, h2⟩ := h
  obtain ⟨v, ps, hrun, hv⟩ := h.look_ok keyed3 ht (hz w) (E.hR z) (keyOf_int_mk Try.underlying3 hk)
  rw [hrun]
  obtain ⟨x, rfl, hx⟩ := E.inv v _ hv
  obtain ⟨a1, a2⟩ := h2 k hk
  rw [a1]
  rcases hf : f k with _ | y
  · rw [hf] at a1
    simp only at hx
    rw [atKey_of_not_has a1] at hx
    rw [← E.inj _ _ hx]; rfl
  · simp only at hx
    rw [a2 y hf] at hx
    rw [← E.inj _ _ hx]; rfl
theorem zero3 (W : World) : (zeroValue 3).run Try.prog W = .ok (elI.val 0) W := by
  simp [zeroValue, elI, Try.t3]
theorem zero35 (W : World) : (zeroValue 35).run Try.prog W = .ok (elP.val none) W := by
  simp [zeroValue, elP, Try.t35]
theorem IM.below {α : Type} {E : El α} {w w' : World} {b : Nat} {f : Int → Option α} {sz : Nat} (h : IM E w b f sz) (k : Below w.heap.size w w') : IM E w' b f sz := h.kp (S := fun _ => False) (Kp.of_below k) id
/-- What a generator is, and its frame. -/
def fits (w : World) (base : Nat) (k : Int) (x : GE) (b : Nat) : Prop :=
  (x.st = 0 ∧ x.fr = some b ∨ x.st = 1 ∧ x.fr = none ∨ x.st = 2 ∧ x.fr = none) ∧ ∃ R, FrG w b R (List.replicate 2 V.null) 6 k ∧ base ≤ b ∧ base ≤ R
structure Play (w0 w : World) (g mb base sb fm : Nat) (f : Int → Option GE) (fb : Int → Option Nat) (sz : Nat) : Prop where
  gs : GS w g mb base f sz
  st : IM elI w sb (fun k => (f k).map (fun x => x.st)) sz
  fr : IM elP w fm (fun k => (fb k).map (fun b => some b)) sz
  dom : ∀ k, (f k).isSome = (fb k).isSome
  each : ∀ k x b, f k = some x → fb k = some b → fits w base k x b
  ne1 : sb ≠ mb
  ne2 : fm ≠ mb
  ne3 : sb ≠ fm
  lo : base ≤ sb ∧ base ≤ fm ∧ w0.heap.size ≤ base
  bel : Below w0.heap.size w0 w
theorem Play.below {w0 w w' : World} {g mb base sb fm : Nat} {f : Int → Option GE} {fb : Int → Option Nat} {sz : Nat} (h : Play w0 w g mb base sb fm f fb sz) (k : Below w.heap.size w w') : Play w0 w' g mb base sb fm f fb sz :=
  ⟨h.gs.below k, h.st.below k, h.fr.below k, h.dom, fun j x b hx hb => by obtain ⟨h1, R, h2, h3⟩ := h.each j x b hx hb; exact ⟨h1, R, h2.below k, h3⟩, h.ne1, h.ne2, h.ne3, h.lo, h.bel.trans (k.mono h.bel.size)⟩
theorem FrG.ne {w : World} {b R : Nat} {regs : List V} {how gen : Int} (h : FrG w b R regs how gen) {α : Type} {E : El α} {m : Nat} {f : Int → Option α} {sz : Nat} (hm : IM E w m f sz) : b ≠ m ∧ R ≠ m := by
  obtain ⟨hR, fn, cl, se, pc, dst, ex, hb⟩ := h
  exact ⟨im_ne hb hm, im_ne hR hm⟩
theorem FrG.ne_e {w : World} {b R : Nat} {regs : List V} {how gen : Int} (h : FrG w b R regs how gen) {e : Nat} {cs : List Value} (he : Blk w e 120 cs) : b ≠ e ∧ R ≠ e := by
  obtain ⟨hR, fn, cl, se, pc, dst, ex, hb⟩ := h
  exact ⟨blk_ne hb he (by decide), blk_ne hR he (by decide)⟩
theorem GS.kmap {w w' : World} {g mb base : Nat} {f : Int → Option GE} {sz : Nat} (h : GS w g mb base f sz) {α : Type} {E : El α} {m : Nat} {f' : Int → Option α} {sz' : Nat} (hm : IM E w m f' sz') (hne : m ≠ mb) (k : Kp (fun x => x = m) w w') : GS w' g mb base f sz :=
  h.kpS k (im_ne h.box hm) (fun (e : mb = m) => hne e.symm) (fun j x hx => im_ne (h.en j x hx) hm)
theorem kp_base {w0 w w' : World} {base : Nat} {S : Nat → Prop} (hb : Below w0.heap.size w0 w) (hl : w0.heap.size ≤ base) (k : Kp S w w') (hs : ∀ x, S x → base ≤ x) : Below w0.heap.size w0 w' :=
  kpb hb (k.mono (fun x _ h => Nat.le_trans hl (hs x h)))
set_option maxRecDepth 100000 in
/-- An entry has turned; then the law's own map says so. -/
theorem Play.turned {w0 w w3 : World} {g mb base sb fm : Nat} {f : Int → Option GE} {fb : Int → Option Nat} {sz : Nat} (h : Play w0 w g mb base sb fm f fb sz) {c : Int} (hc : wfk c) {x y : GE} {b : Nat} (hf : f c = some x) (hfb : fb c = some b) (he : y.e = x.e)
    (hy : y.st = 0 ∧ y.fr = some b ∨ y.st = 1 ∧ y.fr = none ∨ y.st = 2 ∧ y.fr = none) (hg : GS w3 g mb base (upd f c (some y)) sz) (k : Kp (fun z => z = x.e) w w3) (hs : sz < 1000) :
    ∃ w4, (Instr.mapUpdate 86 (.map (some sb)) (.int .i64 c) (.int .i64 y.st)).run Try.prog w3 = .ok () w4 ∧ Play w0 w4 g mb base sb fm (upd f c (some y)) fb sz := by
  have hx := h.gs.en c x hf
  have st3 := h.st.kp k (fun e => im_ne hx h.st e.symm)
  have fr3 := h.fr.kp k (fun e => im_ne hx h.fr e.symm)
  obtain ⟨w4, hrun, st4, hg4, hsz4⟩ := st3.put Try.underlying86 (by omega) hc y.st
  have k4 : Kp (fun z => z = sb) w3 w4 := Kp.of_grown hg4 (fun q e => by injection e with e; exact e.symm)
  rw [hf] at st4
  simp only [Option.map_some, Option.isSome_some, if_true] at st4
  have hu : (fun j => ((upd f c (some y)) j).map (fun x => x.st)) = upd (fun j => (f j).map (fun x => x.st)) c (some y.st) := by
    funext j; unfold upd; split <;> rfl
  have hxb : base ≤ x.e := h.gs.lo.2.2 c x hf
  refine ⟨w4, hrun, hg.kmap st3 h.ne1 k4, hu ▸ st4, fr3.kp k4 (fun (e : fm = sb) => h.ne3 e.symm), fun j => ?_, fun j u b' hu' hb' => ?_, h.ne1, h.ne2, h.ne3, h.lo, ?_⟩
  · unfold upd
    split
    · rename_i hj; subst hj; rw [hfb]; rfl
    · exact h.dom j
  · have hold : ∀ (u0 : GE), f j = some u0 → ∃ R, FrG w4 b' R (List.replicate 2 V.null) 6 j ∧ base ≤ b' ∧ base ≤ R := fun u0 h0 => by
      obtain ⟨_, R, h2, h3⟩ := h.each j u0 b' h0 hb'
      have n1 := h2.ne_e hx
      have h2' := h2.kp k (fun e => n1.1 e) (fun e => n1.2 e)
      have n2 := h2'.ne st3
      exact ⟨R, h2'.kp k4 (fun e => n2.1 e) (fun e => n2.2 e), h3⟩
    unfold upd at hu'
    split at hu'
    · rename_i hj
      injection hu' with hu'
      subst hu' hj
      rw [hfb] at hb'
      injection hb' with hb'
      subst hb'
      exact ⟨hy, hold x hf⟩
    · exact ⟨(h.each j u b' hu' hb').1, hold u hu'⟩
  · exact kp_base (kp_base h.bel h.lo.2.2 k (fun z e => by subst e; exact hxb)) h.lo.2.2 k4 (fun z e => by subst e; exact h.lo.1)
/-- An entry stays as it is. -/
theorem Play.stayed {w0 w w3 : World} {g mb base sb fm : Nat} {f : Int → Option GE} {fb : Int → Option Nat} {sz : Nat} (h : Play w0 w g mb base sb fm f fb sz) {c : Int} {x : GE} (hf : f c = some x) (hg : GS w3 g mb base (upd f c (some x)) sz) (k : Kp (fun z => z = x.e) w w3) :
    Play w0 w3 g mb base sb fm f fb sz := by
  rw [upd_self f c _ hf] at hg
  have hx := h.gs.en c x hf
  have hxb : base ≤ x.e := h.gs.lo.2.2 c x hf
  refine ⟨hg, h.st.kp k (fun e => im_ne hx h.st e.symm), h.fr.kp k (fun e => im_ne hx h.fr e.symm), h.dom, fun j u b' hu hb' => ?_, h.ne1, h.ne2, h.ne3, h.lo, kp_base h.bel h.lo.2.2 k (fun z e => by subst e; exact hxb)⟩
  obtain ⟨h1, R, h2, h3⟩ := h.each j u b' hu hb'
  have n1 := h2.ne_e hx
  exact ⟨h1, R, h2.kp k (fun e => n1.1 e) (fun e => n1.2 e), h3⟩
theorem Play.drew {w0 w : World} {g mb base sb fm : Nat} {f : Int → Option GE} {fb : Int → Option Nat} {sz : Nat} (h : Play w0 w g mb base sb fm f fb sz) (n : Nat) : Play w0 (w.drewN n) g mb base sb fm f fb sz :=
  h.below (((Kp.refl (fun _ => False) w).drewN n).below (fun _ _ h => h))
set_option maxRecDepth 100000 in
/-- One more. -/
theorem Play.added {w0 w w3 : World} {g mb base sb fm : Nat} {f : Int → Option GE} {fb : Int → Option Nat} {sz : Nat} (h : Play w0 w g mb base sb fm f fb sz) {c : Int} (hc : wfk c) (hf : f c = none) {b R e : Nat} (hb0 : w0.heap.size ≤ b ∧ base ≤ b ∧ base ≤ R) (hnew : ∀ j b', fb j = some b' → b' ≠ b)
    (hnewR : ∀ j x b', f j = some x → fb j = some b' → ∃ R', FrG w b' R' (List.replicate 2 V.null) 6 j ∧ base ≤ b' ∧ base ≤ R' ∧ R' ≠ b) {how gen : Int} (hfr0 : FrG w b R (List.replicate 2 V.null) how gen)
    (hg : GS w3 g mb base (upd f c (some ⟨e, some b, 0⟩)) (sz + 1)) (hfr : FrG w3 b R (List.replicate 2 V.null) 6 c) (k : Kp (fun z => z = b ∨ z = mb) w w3) (hs : sz < 1000) :
    ∃ w4 w5, (Instr.mapUpdate 86 (.map (some sb)) (.int .i64 c) (.int .i64 0)).run Try.prog w3 = .ok () w4 ∧ (Instr.mapUpdate 87 (.map (some fm)) (.int .i64 c) (.pointer (some ⟨b, 0, none⟩))).run Try.prog w4 = .ok () w5 ∧
      Play w0 w5 g mb base sb fm (upd f c (some ⟨e, some b, 0⟩)) (upd fb c (some b)) (sz + 1) := by
  have hfb : fb c = none := by have := h.dom c; rw [hf] at this; cases hq : fb c with | none => rfl | some q => rw [hq] at this; cases this
  have nb1 := hfr0.ne h.st
  have nb2 := hfr0.ne h.fr
  have st3 := h.st.kp k (fun e => e.elim (fun e => nb1.1 e.symm) (fun e => h.ne1 e))
  have fr3 := h.fr.kp k (fun e => e.elim (fun e => nb2.1 e.symm) (fun e => h.ne2 e))
  obtain ⟨w4, hrun4, st4, hg4, hsz4⟩ := st3.put Try.underlying86 (by omega) hc 0
  have k4 : Kp (fun z => z = sb) w3 w4 := Kp.of_grown hg4 (fun q e => by injection e with e; exact e.symm)
  have fr4 := fr3.kp k4 (fun (e : fm = sb) => h.ne3 e.symm)
  obtain ⟨w5, hrun5, fr5, hg5, hsz5⟩ := fr4.put Try.underlying87 (by omega) hc (some b)
  have k5 : Kp (fun z => z = fm) w4 w5 := Kp.of_grown hg5 (fun q e => by injection e with e; exact e.symm)
  rw [hf] at st4
  rw [hfb] at fr5
  have st5 := st4.kp k5 (fun (e : sb = fm) => h.ne3 e)
  simp only [Option.map_none, Option.isSome_none, Bool.false_eq_true, if_false] at st5 fr5
  have hu1 : (fun j => ((upd f c (some (GE.mk e (some b) 0))) j).map (fun x => x.st)) = upd (fun j => (f j).map (fun x => x.st)) c (some 0) := by
    funext j; unfold upd; split <;> rfl
  have hu2 : (fun j => ((upd fb c (some b)) j).map (fun b => some b)) = upd (fun j => (fb j).map (fun b => some b)) c (some (some b)) := by
    funext j; unfold upd; split <;> rfl
  have g4 := hg.kmap st3 h.ne1 k4
  have keep : ∀ {b' R' : Nat} {j : Int}, FrG w3 b' R' (List.replicate 2 V.null) 6 j → FrG w5 b' R' (List.replicate 2 V.null) 6 j := fun {b' R' j} q => by
    have n2 := q.ne st3
    have q4 := q.kp k4 (fun e => n2.1 e) (fun e => n2.2 e)
    have n3 := q4.ne fr4
    exact q4.kp k5 (fun e => n3.1 e) (fun e => n3.2 e)
  refine ⟨w4, w5, hrun4, hrun5, g4.kmap fr4 h.ne2 k5, hu1 ▸ st5, hu2 ▸ fr5, fun j => ?_, fun j u b' hu' hb' => ?_, h.ne1, h.ne2, h.ne3, h.lo, ?_⟩
  · unfold upd
    split
    · rfl
    · exact h.dom j
  · unfold upd at hu' hb'
    split at hu'
    · rename_i hj
      injection hu' with hu'
      rw [if_pos hj] at hb'
      injection hb' with hb'
      subst hu' hj hb'
      exact ⟨.inl ⟨rfl, rfl⟩, R, keep hfr, hb0.2⟩
    · rename_i hj
      rw [if_neg hj] at hb'
      obtain ⟨R', q1, q2, q3, q4⟩ := hnewR j u b' hu' hb'
      have n1 := q1.ne h.gs.im
      exact ⟨(h.each j u b' hu' hb').1, R', keep (q1.kp k (fun e => e.elim (fun e => hnew j b' hb' e) (fun e => n1.1 e)) (fun e => e.elim (fun e => q4 e) (fun e => n1.2 e))), q2, q3⟩
  · exact kp_base (kp_base (kp_base h.bel h.lo.2.2 k (fun z e => e.elim (fun e => by subst e; exact hb0.2.1) (fun e => by subst e; exact h.gs.lo.2.1))) h.lo.2.2 k4 (fun z e => by subst e; exact h.lo.1)) h.lo.2.2 k5 (fun z e => by subst e; exact h.lo.2.1)
set_option maxRecDepth 100000 in
/-- One is gone, or there was none. -/
theorem Play.gone {w0 w w3 : World} {g mb base sb fm : Nat} {f : Int → Option GE} {fb : Int → Option Nat} {sz : Nat} (h : Play w0 w g mb base sb fm f fb sz) {c : Int} (hc : wfk c)
    (hg : GS w3 g mb base (upd f c none) (if (f c).isSome then sz - 1 else sz)) (k : Kp (fun z => z = mb) w w3) (ty ty' : TypeId) :
    ∃ w4 w5, (Builtin.delete_ #[86, 3] ty #[.map (some sb), .int .i64 c]).run Try.prog w3 = .ok (.tuple #[]) w4 ∧ (Builtin.delete_ #[87, 3] ty' #[.map (some fm), .int .i64 c]).run Try.prog w4 = .ok (.tuple #[]) w5 ∧
      Play w0 w5 g mb base sb fm (upd f c none) (upd fb c none) (if (f c).isSome then sz - 1 else sz) := by
  have st3 := h.st.kp k (fun e => h.ne1 e)
  have fr3 := h.fr.kp k (fun e => h.ne2 e)
  obtain ⟨w4, hrun4, st4, hg4, hsz4⟩ := st3.del Try.underlying86 hc ty
  have k4 : Kp (fun z => z = sb) w3 w4 := Kp.of_grown hg4 (fun q e => by injection e with e; exact e.symm)
  have fr4 := fr3.kp k4 (fun (e : fm = sb) => h.ne3 e.symm)
  obtain ⟨w5, hrun5, fr5, hg5, hsz5⟩ := fr4.del Try.underlying87 hc ty'
  have k5 : Kp (fun z => z = fm) w4 w5 := Kp.of_grown hg5 (fun q e => by injection e with e; exact e.symm)
  have st5 := st4.kp k5 (fun (e : sb = fm) => h.ne3 e)
  have e1 : ((f c).map (fun x => x.st)).isSome = (f c).isSome := by cases f c <;> rfl
  have e2 : ((fb c).map (fun b => some b)).isSome = (f c).isSome := by rw [h.dom c]; cases fb c <;> rfl
  rw [e1] at st5
  rw [e2] at fr5
  have hu1 : (fun j => ((upd f c none) j).map (fun x => x.st)) = upd (fun j => (f j).map (fun x => x.st)) c none := by
    funext j; unfold upd; split <;> rfl
  have hu2 : (fun j => ((upd fb c none) j).map (fun b => some b)) = upd (fun j => (fb j).map (fun b => some b)) c none := by
    funext j; unfold upd; split <;> rfl
  have g4 := hg.kmap st3 h.ne1 k4
  refine ⟨w4, w5, hrun4, hrun5, g4.kmap fr4 h.ne2 k5, hu1 ▸ st5, hu2 ▸ fr5, fun j => ?_, fun j u b' hu' hb' => ?_, h.ne1, h.ne2, h.ne3, h.lo, ?_⟩
  · unfold upd
    split
    · rfl
    · exact h.dom j
  · unfold upd at hu' hb'
    split at hu'
    · cases hu'
    · rename_i hj
      rw [if_neg hj] at hb'
      obtain ⟨h1, R, h2, h3⟩ := h.each j u b' hu' hb'
      have n1 := h2.ne h.gs.im
      have q3 := h2.kp k (fun e => n1.1 e) (fun e => n1.2 e)
      have n2 := q3.ne st3
      have q4 := q3.kp k4 (fun e => n2.1 e) (fun e => n2.2 e)
      have n3 := q4.ne fr4
      exact ⟨h1, R, q4.kp k5 (fun e => n3.1 e) (fun e => n3.2 e), h3⟩
  · exact kp_base (kp_base (kp_base h.bel h.lo.2.2 k (fun z e => by subst e; exact h.gs.lo.2.1)) h.lo.2.2 k4 (fun z e => by subst e; exact h.lo.1)) h.lo.2.2 k5 (fun z e => by subst e; exact h.lo.2.1)
end Go.Proofs.Ytpcamgjfikipgaa
