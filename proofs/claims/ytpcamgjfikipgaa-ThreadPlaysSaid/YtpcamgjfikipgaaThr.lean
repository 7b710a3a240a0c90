/- thread.Threads: the threads as data, and what keeps them. No condition. -/
import Derived.Test.YtpcamgjfikipgaaPlayOps
namespace Go.Proofs.Ytpcamgjfikipgaa
open Go.RowKit
set_option linter.unusedVariables false
theorem own_at {w : World} {base size n : Nat} {τ : TypeId} {v : Value} {xs : List Value} (h : w.ownsRow base τ size v n xs) {q : Nat} (hq : v.ownBlock = some q) : ∃ cur, w.heap[q]? = some (.cells cur τ (0, 0)) ∧ base ≤ q := by
  rcases h.2 with ⟨rfl, _⟩ | ⟨g, cap, cur, rfl, hb, hg, _⟩
  · cases hq
  · simp only [Value.ownBlock, Option.some.injEq] at hq
    subst hq
    exact ⟨cur, hg, hb⟩
theorem own_ne_blk {w : World} {base size n : Nat} {τ τ' : TypeId} {v : Value} {xs cs : List Value} (h : w.ownsRow base τ size v n xs) {q b : Nat} (hq : v.ownBlock = some q) (hb : Blk w b τ' cs) (hne : τ ≠ τ') : q ≠ b := by
  rintro rfl
  obtain ⟨cur, hc, _⟩ := own_at h hq
  unfold Blk at hb
  rw [hc] at hb
  injection hb with e
  injection e with _ e
  exact hne e
theorem own_ne_own {w : World} {base base' size size' n n' : Nat} {τ τ' : TypeId} {v v' : Value} {xs xs' : List Value} (h : w.ownsRow base τ size v n xs) (h' : w.ownsRow base' τ' size' v' n' xs') (hne : τ ≠ τ') {q : Nat} (hq : v.ownBlock = some q) : v'.ownBlock ≠ some q := by
  intro hq'
  obtain ⟨cur, hc, _⟩ := own_at h hq
  obtain ⟨cur', hc', _⟩ := own_at h' hq'
  rw [hc] at hc'
  injection hc' with e
  injection e with _ e
  exact hne e
theorem own_ne_im {w : World} {base size n : Nat} {τ : TypeId} {v : Value} {xs : List Value} (h : w.ownsRow base τ size v n xs) {q : Nat} (hq : v.ownBlock = some q) {α : Type} {E : El α} {m : Nat} {f : Int → Option α} {sz : Nat} (hm : IM E w m f sz) : q ≠ m := by
  rintro rfl
  obtain ⟨cur, hc, _⟩ := own_at h hq
  obtain ⟨D, ⟨es, clock, h, _⟩, _⟩ := hm
  rw [hc] at h
  cases h
/-- A thread: its block, its list and its frames, its state, its register. -/
structure TE where
  e : Nat
  lv : Value
  bs : List Nat
  st : Int
  into : Int
def thc (k : Int) (x : TE) : List Value := [.int .i64 k, x.lv, .int .i64 x.st, .int .i64 x.into]
structure ThE (w : World) (base : Nat) (k : Int) (x : TE) : Prop where
  stk : Stk w x.e 101 (thc k x) 1 base x.lv x.bs
  lo : base ≤ x.e
structure TS (w : World) (t mb base : Nat) (m : TE) (f : Int → Option TE) (sz : Nat) (rv : Value) (rs : List Nat) : Prop where
  box : Blk w t 124 [.map (some mb), rv]
  im : IM elP w mb (fun k => (f k).map (fun x => some x.e)) sz
  main : ThE w base (-1) m
  mlv : m.lv.ownBlock = none
  en : ∀ k x, f k = some x → ThE w base k x
  run : w.ownsRow base 102 1 rv rs.length (rs.map ptr)
  apartM : ∀ k x, f k = some x → x.e ≠ m.e
  apart : ∀ k k' x y, f k = some x → f k' = some y → k ≠ k' → x.e ≠ y.e ∧ ∀ q, x.lv.ownBlock = some q → y.lv.ownBlock ≠ some q
  lo : base ≤ t ∧ base ≤ mb
theorem ThE.kp {w w' : World} {S : Nat → Prop} {base : Nat} {k : Int} {x : TE} (h : ThE w base k x) (k' : Kp S w w') (h1 : ¬ S x.e) (h2 : ∀ q, x.lv.ownBlock = some q → ¬ S q) : ThE w' base k x := ⟨h.stk.kp k' h1 h2, h.lo⟩
/-- What a step of thread x may write. -/
def thS (t mb : Nat) (x : TE) (rv : Value) (b : Nat) : Prop := b = x.e ∨ x.lv.ownBlock = some b ∨ b = t ∨ rv.ownBlock = some b ∨ b = mb
section
variable {w w' : World} {t mb base : Nat} {m : TE} {f : Int → Option TE} {sz : Nat} {rv : Value} {rs : List Nat}
theorem TS.low (h : TS w t mb base m f sz rv rs) {k : Int} {x : TE} (hx : ThE w base k x) {b : Nat} (hb : thS t mb x rv b) : base ≤ b := by
  rcases hb with rfl | e | rfl | e | rfl
  · exact hx.lo
  · exact (own_at hx.stk.own e).choose_spec.2
  · exact h.lo.1
  · exact (own_at h.run e).choose_spec.2
  · exact h.lo.2
/-- Blocks of other types stay. -/
theorem TS.far (h : TS w t mb base m f sz rv rs) {k : Int} {x : TE} (hx : ThE w base k x) {b : Nat} {τ : TypeId} {cs : List Value} (hb : Blk w b τ cs) (h1 : τ ≠ 101) (h2 : τ ≠ 35) (h3 : τ ≠ 124) (h4 : τ ≠ 102) : ¬ thS t mb x rv b := by
  rintro (rfl | e | rfl | e | rfl)
  · exact blk_ne hb hx.stk.blk h1 rfl
  · exact own_ne_blk hx.stk.own e hb (fun e => h2 e.symm) rfl
  · exact blk_ne hb h.box h3 rfl
  · exact own_ne_blk h.run e hb (fun e => h4 e.symm) rfl
  · exact im_ne hb h.im rfl
theorem TS.frame (h : TS w t mb base m f sz rv rs) {k : Int} {x : TE} (hx : ThE w base k x) (kp : Kp (thS t mb x rv) w w') {b R : Nat} {regs : List V} {how gen : Int} (hf : FrG w b R regs how gen) : FrG w' b R regs how gen := by
  have hf0 := hf
  obtain ⟨hR, fn, cl, se, pc, dst, ex, hb⟩ := hf0
  exact hf.kp kp (h.far hx hb (by decide) (by decide) (by decide) (by decide)) (h.far hx hR (by decide) (by decide) (by decide) (by decide))
theorem TS.imfar (h : TS w t mb base m f sz rv rs) {k : Int} {x : TE} (hx : ThE w base k x) {α : Type} {E : El α} {q : Nat} {f' : Int → Option α} {sz' : Nat} (hm : IM E w q f' sz') (hne : q ≠ mb) : ¬ thS t mb x rv q := by
  rintro (e | e | e | e | e)
  · exact im_ne hx.stk.blk hm e.symm
  · exact own_ne_im hx.stk.own e hm rfl
  · exact im_ne h.box hm e.symm
  · exact own_ne_im h.run e hm rfl
  · exact hne e
theorem TS.gens (h : TS w t mb base m f sz rv rs) {k : Int} {x : TE} (hx : ThE w base k x) (kp : Kp (thS t mb x rv) w w') {g mbg bg : Nat} {fg : Int → Option GE} {sg : Nat} (hg : GS w g mbg bg fg sg) (hne : mbg ≠ mb) : GS w' g mbg bg fg sg :=
  hg.kpS kp (h.far hx hg.box (by decide) (by decide) (by decide) (by decide)) (h.imfar hx hg.im hne) (fun j y hy => h.far hx (hg.en j y hy) (by decide) (by decide) (by decide) (by decide))
theorem TS.kp {S : Nat → Prop} (h : TS w t mb base m f sz rv rs) (k : Kp S w w') (hs : ∀ b, S b → b < base ∨ w.heap.size ≤ b) : TS w' t mb base m f sz rv rs := by
  have hn : ∀ b, base ≤ b → b < w.heap.size → ¬ S b := fun b h1 h2 h3 => by rcases hs b h3 with h | h <;> omega
  have hth : ∀ {k : Int} {x : TE}, ThE w base k x → ThE w' base k x := fun {k' x} hx => hx.kp k (hn _ hx.lo hx.stk.blk.lt) (fun q hq => by have := World.ownsRow.lt hx.stk.own q hq; exact hn q this.1 this.2)
  exact ⟨h.box.kp k (hn _ h.lo.1 h.box.lt), h.im.kp k (hn _ h.lo.2 h.im.lt), hth h.main, h.mlv, fun j x hx => hth (h.en j x hx), own_kp h.run k (fun q hq => by have := World.ownsRow.lt h.run q hq; exact hn q this.1 this.2), h.apartM, h.apart, h.lo⟩
theorem TS.below (h : TS w t mb base m f sz rv rs) (k : Below w.heap.size w w') : TS w' t mb base m f sz rv rs := h.kp (S := fun _ => False) (Kp.of_below k) (fun _ h => h.elim)
/-- Under a step that keeps off this thread's own blocks: an entry other than x. -/
theorem TS.other (h : TS w t mb base m f sz rv rs) {k j : Int} {x y : TE} (hf : f k = some x) (hy : f j = some y) (hjk : j ≠ k) {S : Nat → Prop} (hS : ∀ b, S b → b = x.e ∨ x.lv.ownBlock = some b ∨ b = t ∨ rv.ownBlock = some b) (kp : Kp S w w') : ThE w' base j y := by
  have hx := h.en k x hf
  have hyy := h.en j y hy
  have ha := h.apart j k y x hy hf hjk
  refine hyy.kp kp (fun e => ?_) (fun q hq e => ?_)
  · rcases hS _ e with e | e | e | e
    · exact ha.1 e
    · exact own_ne_blk hx.stk.own e hyy.stk.blk (by decide) rfl
    · exact blk_ne hyy.stk.blk h.box (by decide) e
    · exact own_ne_blk h.run e hyy.stk.blk (by decide) rfl
  · rcases hS _ e with e | e | e | e
    · exact own_ne_blk hyy.stk.own hq hx.stk.blk (by decide) e
    · exact ha.2 q hq e
    · exact own_ne_blk hyy.stk.own hq h.box (by decide) e
    · exact own_ne_own hyy.stk.own h.run (by decide) hq e
theorem TS.mainly (h : TS w t mb base m f sz rv rs) {k : Int} {x : TE} (hf : f k = some x) {S : Nat → Prop} (hS : ∀ b, S b → b = x.e ∨ x.lv.ownBlock = some b ∨ b = t ∨ rv.ownBlock = some b) (kp : Kp S w w') : ThE w' base (-1) m := by
  have hx := h.en k x hf
  refine h.main.kp kp (fun e => ?_) (fun q hq e => by rw [h.mlv] at hq; cases hq)
  rcases hS _ e with e | e | e | e
  · exact h.apartM k x hf e.symm
  · exact own_ne_blk hx.stk.own e h.main.stk.blk (by decide) rfl
  · exact blk_ne h.main.stk.blk h.box (by decide) e
  · exact own_ne_blk h.run e h.main.stk.blk (by decide) rfl
/-- Thread x has turned, and those that run. -/
theorem TS.turn (h : TS w t mb base m f sz rv rs) {k : Int} {x y : TE} (hf : f k = some x) (he : y.e = x.e) {S : Nat → Prop} (hS : ∀ b, S b → b = x.e ∨ x.lv.ownBlock = some b ∨ b = t ∨ rv.ownBlock = some b) (kp : Kp S w w')
    (hy : ThE w' base k y) (hown : ∀ q, y.lv.ownBlock = some q → x.lv.ownBlock = some q ∨ w.heap.size ≤ q) {rv' : Value} {rs' : List Nat} (hb : Blk w' t 124 [.map (some mb), rv']) (hr : w'.ownsRow base 102 1 rv' rs'.length (rs'.map ptr)) :
    TS w' t mb base m (upd f k (some y)) sz rv' rs' := by
  have hx := h.en k x hf
  have hu : (fun j => ((upd f k (some y)) j).map (fun x => some x.e)) = (fun j => (f j).map (fun x => some x.e)) := by
    funext j; unfold upd; split
    · rename_i hj; subst hj; rw [hf]; simp [he]
    · rfl
  have key : ∀ j z, (upd f k (some y)) j = some z → (j = k ∧ z = y) ∨ (j ≠ k ∧ f j = some z) := fun j z hz => by
    unfold upd at hz; split at hz
    · rename_i hj; injection hz with hz; exact .inl ⟨hj, hz.symm⟩
    · rename_i hj; exact .inr ⟨hj, hz⟩
  refine ⟨hb, ?_, h.mainly hf hS kp, h.mlv, fun j z hz => ?_, hr, fun j z hz => ?_, fun j j' z z' hz hz' hjj => ?_, h.lo⟩
  · rw [hu]
    refine h.im.kp kp (fun e => ?_)
    rcases hS _ e with e | e | e | e
    · exact im_ne hx.stk.blk h.im e.symm
    · exact own_ne_im hx.stk.own e h.im rfl
    · exact im_ne h.box h.im e.symm
    · exact own_ne_im h.run e h.im rfl
  · rcases key j z hz with ⟨rfl, rfl⟩ | ⟨hj, hz⟩
    · exact hy
    · exact h.other hf hz hj hS kp
  · rcases key j z hz with ⟨rfl, rfl⟩ | ⟨hj, hz⟩
    · rw [he]; exact h.apartM _ x hf
    · exact h.apartM j z hz
  · rcases key j z hz with ⟨rfl, rfl⟩ | ⟨hj, hz2⟩
    · rcases key j' z' hz' with ⟨rfl, rfl⟩ | ⟨hj', hz'⟩
      · exact absurd rfl hjj
      · have ha := h.apart j j' x z' hf hz' hjj
        refine ⟨by rw [he]; exact ha.1, fun q hq e => ?_⟩
        rcases hown q hq with e1 | e1
        · exact ha.2 q e1 e
        · have := (World.ownsRow.lt (h.en j' z' hz').stk.own q e).2; omega
    · rcases key j' z' hz' with ⟨hj', e2⟩ | ⟨hj', hz'⟩
      · subst e2 hj'
        have ha := h.apart j j' z x hz2 hf hjj
        refine ⟨by rw [he]; exact ha.1, fun q hq e => ?_⟩
        rcases hown q e with e1 | e1
        · exact ha.2 q hq e1
        · have := (World.ownsRow.lt (h.en j z hz2).stk.own q hq).2; omega
      · exact h.apart j j' z z' hz2 hz' hjj
end
end Go.Proofs.Ytpcamgjfikipgaa
