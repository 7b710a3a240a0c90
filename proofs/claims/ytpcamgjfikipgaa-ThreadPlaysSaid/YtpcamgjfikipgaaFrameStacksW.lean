/- dreylaw20.FrameStacks where its guard lets go on: the call returns true and leaves what was there as it was. Conditions: at most 60 pushes, at most 60 values. -/
import Derived.Test.YtpcamgjfikipgaaStackVals
import Derived.Test.YtpcamgjfikipgaaEqs
import Derived.Lib.Builder
namespace Go.Proofs.Ytpcamgjfikipgaa
open Go.RowKit
set_option linter.unusedVariables false
/-- What is known of a frame: its cell, this, all values that it tells, and whether it sorts. -/
structure FD where
  cl : V
  se : V
  vals : List V
  so : Bool
def Fr (w : World) (sn : Nat) (b : Nat) (d : FD) : Prop :=
  (d.so = false ∧ ∃ R regs fn, Blk w b 40 (fcs fn d.cl d.se (.slice (some ⟨R, 0, none⟩) 2 2) 0 0 0 V.null (.pointer none) (-1)) ∧ Blk w R 25 (vcs regs) ∧ regs.length = 2 ∧ d.vals = [d.cl, d.se, V.null] ++ regs) ∨
  (d.so = true ∧ ∃ s v vs base, Blk w b 40 (fcs (-1) d.cl d.se (.slice none 0 0) 0 0 0 V.null (ptr s) (-1)) ∧ Srt w base s v vs 1 1 ∧ vs.length = sn ∧ d.vals = [d.cl, d.se, V.null] ++ [] ++ vs)
/-- Only rows of frames and stacks are in S. -/
def Light (w : World) (S : Nat → Prop) : Prop := ∀ g, S g → g < w.heap.size → ∃ cs t, w.heap[g]? = some (.cells cs t (0, 0)) ∧ (t = 35 ∨ t = 47)
theorem Light.off {w : World} {S : Nat → Prop} (h : Light w S) {b : Nat} {t : TypeId} {cs : List Value} (hb : Blk w b t cs) (h1 : t ≠ 35) (h2 : t ≠ 47) : ¬ S b := by
  intro hs
  obtain ⟨cs', t', e, ht⟩ := h b hs hb.lt
  unfold Blk at hb
  rw [hb] at e
  injection e with e
  injection e with _ e
  subst e
  rcases ht with rfl | rfl
  · exact h1 rfl
  · exact h2 rfl
theorem Light.off_own {w : World} {S : Nat → Prop} (h : Light w S) {base g : Nat} {v : Value} {vs : List V} (ho : OwnV w base v vs) (hg : v.ownBlock = some g) : ¬ S g := by
  intro hs
  rcases ho.2 with ⟨rfl, _⟩ | ⟨g', cap, cur, rfl, _, hh, _⟩
  · simp [Value.ownBlock] at hg
  · have : g' = g := by simpa [Value.ownBlock] using hg
    subst this
    obtain ⟨cs', t', e, ht⟩ := h g' hs (Array.getElem?_eq_some_iff.1 hh).1
    rw [hh] at e
    injection e with e
    injection e with _ e
    subst e
    rcases ht with ht | ht <;> cases ht
theorem Fr.kp {w w' : World} {S : Nat → Prop} {sn b : Nat} {d : FD} (h : Fr w sn b d) (k : Kp S w w') (hs : Light w S) : Fr w' sn b d := by
  rcases h with ⟨h0, R, regs, fn, h1, h2, h3, h4⟩ | ⟨h0, s, v, vs, base, h1, h2, h3, h4⟩
  · exact .inl ⟨h0, R, regs, fn, h1.kp k (hs.off h1 (by decide) (by decide)), h2.kp k (hs.off h2 (by decide) (by decide)), h3, h4⟩
  · exact .inr ⟨h0, s, v, vs, base, h1.kp k (hs.off h1 (by decide) (by decide)), h2.kp k (hs.off h2.blk (by decide) (by decide)) (fun g hg => hs.off_own h2.own hg), h3, h4⟩
theorem light_none (w : World) : Light w (fun _ => False) := fun _ h => h.elim
theorem Fr.below {w w' : World} {sn b : Nat} {d : FD} (h : Fr w sn b d) (k : Below w.heap.size w w') : Fr w' sn b d := h.kp (S := fun _ => False) (Kp.of_below k) (light_none w)
theorem Fr.values {w : World} {sn b : Nat} {d : FD} (h : Fr w sn b d) (hsn : sn ≤ 60) : Calls Try.prog 26 #[ptr b] w (Told w d.vals) := by
  rcases h with ⟨_, R, regs, fn, h1, h2, h3, h4⟩ | ⟨_, s, v, vs, base, h1, h2, h3, h4⟩
  · rw [h4]
    exact values_plain h1 (Rd.of_blk h2 (by rw [vcs_length, h3])) (by omega) (by omega)
  · rw [h4]
    exact values_sort h1 (Rd.nil _ _ _) (by omega) h2 (by omega) (by omega)
theorem stk_light {w : World} {sb : Nat} {lv : Value} {base : Nat} {bs : List Nat} (h : Stk w sb 47 [lv] 0 base lv bs) : Light w (fun b => b = sb ∨ lv.ownBlock = some b) := by
  intro g hg hlt
  rcases hg with rfl | hg
  · exact ⟨_, _, h.blk, .inr rfl⟩
  · rcases h.own.2 with ⟨rfl, _⟩ | ⟨g', cap, cur, rfl, _, hh, _⟩
    · simp [Value.ownBlock] at hg
    · have : g' = g := by simpa [Value.ownBlock] using hg
      subst this
      exact ⟨_, _, hh, .inl rfl⟩
/-- The state of the stack and of what is wanted. -/
structure Pl (w : World) (sb base sn : Nat) (lv wv : Value) (ps : List (Nat × FD)) : Prop where
  stk : Stk w sb 47 [lv] 0 base lv (ps.map (·.1))
  want : w.ownsRow base 35 1 wv ps.length ((ps.map (·.1)).map ptr)
  wne : wv.ownBlock ≠ some sb
  apart : ∀ g, wv.ownBlock = some g → lv.ownBlock ≠ some g
  frs : ∀ p ∈ ps, Fr w sn p.1 p.2
theorem own_kp {S : Nat → Prop} {w w' : World} {base n : Nat} {v : Value} {xs : List Value} {e size : Nat} (h : w.ownsRow base e size v n xs) (k : Kp S w w') (hn : ∀ g, v.ownBlock = some g → ¬ S g) : w'.ownsRow base e size v n xs := by
  refine ⟨h.1, ?_⟩
  rcases h.2 with h0 | ⟨g, cap, cur, rfl, hb, hg, rest⟩
  · exact .inl h0
  · exact .inr ⟨g, cap, cur, rfl, hb, (k.block g (Array.getElem?_eq_some_iff.1 hg).1 (hn g rfl)).trans hg, rest⟩
theorem Pl.below {w w' : World} {sb base sn : Nat} {lv wv : Value} {ps : List (Nat × FD)} (h : Pl w sb base sn lv wv ps) (k : Below w.heap.size w w') : Pl w' sb base sn lv wv ps :=
  ⟨h.stk.kp (S := fun _ => False) (Kp.of_below k) id (fun _ _ => id), own_kp h.want (S := fun _ => False) (Kp.of_below k) (fun _ _ => id), h.wne, h.apart, fun p hp => (h.frs p hp).below k⟩
theorem pl_pop {w w1 : World} {sb base sn g c : Nat} {lv lv' : Value} {ps : List (Nat × FD)} {p : Nat × FD} (h : Pl w sb base sn lv (.slice (some ⟨g, 0, none⟩) (ps.length + 1) c) (ps ++ [p]))
    (hs : Stk w1 sb 47 ([lv].set 0 lv') 0 base lv' (ps.map (·.1))) (hk : Kp (fun b => b = sb ∨ lv.ownBlock = some b) w w1) (ho : lv'.ownBlock = lv.ownBlock) : Pl w1 sb base sn lv' (.slice (some ⟨g, 0, none⟩) ps.length c) ps := by
  refine ⟨hs, ?_, h.wne, fun x hx => by rw [ho]; exact h.apart x hx, fun q hq => (h.frs q (List.mem_append_left _ hq)).kp hk (stk_light h.stk)⟩
  have h1 := own_kp h.want hk (fun x hx hc => by
    rcases hc with rfl | hc
    · exact h.wne hx
    · exact h.apart x hx hc)
  rw [List.length_append, List.map_append, List.map_append] at h1
  exact ownsRow_pop (by simp) h1
theorem pl_push {w w1 w2 : World} {sb base sn : Nat} {lv lv' wv wv' : Value} {ps : List (Nat × FD)} {b : Nat} {d : FD} {o : Obj} (h : Pl w sb base sn lv wv ps) (hf : Fr w sn b d)
    (hs : Stk w1 sb 47 ([lv].set 0 lv') 0 base lv' (ps.map (·.1) ++ [b])) (hk : Kp (fun b => b = sb ∨ lv.ownBlock = some b) w w1) (hfr : ∀ g, lv'.ownBlock = some g → lv.ownBlock = some g ∨ w.heap.size ≤ g)
    (hown : w2.ownsRow base 35 1 wv' (ps.length + 1) ((ps.map (·.1)).map ptr ++ [ptr b])) (hg : (w1.alloc o).grownBy w2 wv.ownBlock) (hat : wv'.ownBlock = wv.ownBlock ∨ wv'.ownBlock = some (w1.alloc o).heap.size) : Pl w2 sb base sn lv' wv' (ps ++ [(b, d)]) := by
  have k2 : Kp (fun x => wv.ownBlock = some x) w1 w2 := ((Kp.refl _ w1).alloc o).trans (Kp.of_grown hg (fun g e => e)) (fun b _ hb => hb)
  have hwl : ∀ x, wv.ownBlock = some x → x < w.heap.size := fun x hx => (World.ownsRow.lt h.want x hx).2
  have hl2 : Light w1 (fun x => wv.ownBlock = some x) := by
    intro x hx _
    have h1 := own_kp h.want hk (fun y hy hc => by
      rcases hc with rfl | hc
      · exact h.wne hy
      · exact h.apart y hy hc)
    rcases h1.2 with ⟨rfl, _⟩ | ⟨g', cap, cur, rfl, _, hh, _⟩
    · simp [Value.ownBlock] at hx
    · have : g' = x := by simpa [Value.ownBlock] using hx
      subst this
      exact ⟨_, _, hh, .inl rfl⟩
  have hlvne : ∀ x, lv'.ownBlock = some x → wv.ownBlock ≠ some x := fun x hx hw => by
    rcases hfr x hx with h1 | h1
    · exact h.apart x hw h1
    · have := hwl x hw; omega
  refine ⟨?_, ?_, ?_, ?_, ?_⟩
  · have := hs.kp k2 (fun e => h.wne e) (fun x hx => hlvne x hx)
    simpa using this
  · simpa using hown
  · intro e
    rcases hat with h1 | h1
    · rw [h1] at e; exact h.wne e
    · rw [h1] at e; injection e with e; have := hs.blk.lt; simp at e; omega
  · intro x hx e
    rcases hat with h1 | h1
    · rw [h1] at hx; exact hlvne x e hx
    · rw [h1] at hx; injection hx with hx
      have := (World.ownsRow.lt hs.own x e).2
      simp at hx; omega
  · intro p hp
    rcases List.mem_append.1 hp with hp | hp
    · exact ((h.frs p hp).kp hk (stk_light h.stk)).kp k2 hl2
    · simp at hp
      subst hp
      exact (hf.kp hk (stk_light h.stk)).kp k2 hl2
theorem fr_len {w : World} {sn b : Nat} {d : FD} (h : Fr w sn b d) (hs : sn ≤ 60) : 3 ≤ d.vals.length ∧ d.vals.length ≤ 63 ∧ (d.so = true → d.vals.length = 3 + sn) ∧ (d.so = false → d.vals.length = 5) := by
  rcases h with ⟨h0, R, regs, fn, h1, h2, h3, h4⟩ | ⟨h0, s, v, vs, base, h1, h2, h3, h4⟩
  · rw [h4]; simp [h3, h0]
  · rw [h4]; simp [h3, h0]; omega
def tot (ps : List (Nat × FD)) (m : Nat) : Nat := ((ps.take m).map (fun p => p.2.vals)).flatten.length
theorem vals_sum {w : World} (ps : List (Nat × FD)) (sn : Nat) (h : ∀ p ∈ ps, Fr w sn p.1 p.2) (hs : sn ≤ 60) (m : Nat) : tot ps m ≤ 63 * ps.length := by
  unfold tot
  induction ps generalizing m with
  | nil => simp
  | cons p ps ih =>
    cases m with
    | zero => simp
    | succ m =>
      have h1 := (fr_len (h p (by simp)) hs).2.1
      have h2 := ih (fun q hq => h q (by simp [hq])) m
      simp only [List.take_succ_cons, List.map_cons, List.flatten_cons, List.length_append, List.length_cons]
      omega
/-- The cells of a frame that are looked at. -/
theorem fr_cells {w : World} {sn b : Nat} {cl se : V} {vals : List V} {so : Bool} (h : Fr w sn b ⟨cl, se, vals, so⟩) :
    (w.cell? ⟨b, 1, none⟩ = some (.int .i64 cl.k) ∧ w.cell? ⟨b, 2, none⟩ = some (.int .i64 cl.n) ∧ w.cell? ⟨b, 3, none⟩ = some (.string cl.s) ∧ w.cell? ⟨b, 4, none⟩ = some (.int .i64 se.k) ∧ w.cell? ⟨b, 5, none⟩ = some (.int .i64 se.n) ∧ w.cell? ⟨b, 6, none⟩ = some (.string se.s) ∧ w.cell? ⟨b, 15, none⟩ = some (.int .i64 (-1)) ∧ vals[0]? = some cl ∧ vals[1]? = some se ∧ b < w.heap.size) ∧
      ((so = false ∧ w.cell? ⟨b, 14, none⟩ = some (.pointer none)) ∨ (so = true ∧ ∃ s, w.cell? ⟨b, 14, none⟩ = some (.pointer (some ⟨s, 0, none⟩)))) := by
  rcases h with ⟨h0, R, regs, fn, h1, h2, h3, h4⟩ | ⟨h0, s, v, vs, base, h1, h2, h3, h4⟩
  · refine ⟨⟨h1.cell rfl, h1.cell rfl, h1.cell rfl, h1.cell rfl, h1.cell rfl, h1.cell rfl, h1.cell rfl, ?_, ?_, h1.lt⟩, .inl ⟨h0, h1.cell rfl⟩⟩
    · simp only at h4; rw [h4]; rfl
    · simp only at h4; rw [h4]; rfl
  · refine ⟨⟨h1.cell rfl, h1.cell rfl, h1.cell rfl, h1.cell rfl, h1.cell rfl, h1.cell rfl, h1.cell rfl, ?_, ?_, h1.lt⟩, .inr ⟨h0, s, h1.cell rfl⟩⟩
    · simp only at h4; rw [h4]; rfl
    · simp only at h4; rw [h4]; rfl
theorem run_eql_nil_nil {P : Program} (w : World) {tp te : TypeId} (hp : P.underlying tp = some (.pointer te)) : (binOp .eql tp (.pointer none) (.pointer none)).run P w = .ok (.bool true) w := by
  have h : ∀ d : Nat, (Op.equalIn (d + 1) tp (.pointer none) (.pointer none)).run P w = .ok true w := fun d => by simp [Op.equalIn, run_underlying hp]
  simp only [binOp]
  simp [Op.equal, Op.maxDepth, h 9999]
theorem tot_succ {ps : List (Nat × FD)} {m : Nat} {p : Nat × FD} (h : ps[m]? = some p) : tot ps (m + 1) = tot ps m + p.2.vals.length := by
  unfold tot
  have hlt : m < ps.length := (List.getElem?_eq_some_iff.1 h).1
  have e : ps[m] = p := (List.getElem?_eq_some_iff.1 h).2
  rw [List.take_succ_eq_append_getElem hlt, e]
  simp
theorem below_draw {B : Nat} {w1 w2 : World} (h : Below w1.heap.size w1 w2) (hB : B ≤ w1.heap.size) {n : Nat} : Below B w1 (w2.drewN n) := ⟨h.os, h.tape, h.output, h.size, fun k hk => h.block k (by omega)⟩
theorem pl_values {w : World} {sb base sn : Nat} {lv wv : Value} {ps : List (Nat × FD)} (h : Pl w sb base sn lv wv ps) (hs : sn ≤ 60) : ∀ (i b : Nat) (l : List V), (ps.map (·.1))[i]? = some b → (ps.map (fun p => p.2.vals))[i]? = some l → ∀ w' : World, Below w.heap.size w w' → Calls Try.prog 26 #[ptr b] w' (Told w' l) := by
  intro i b l h1 h2 w' hw
  rw [List.getElem?_map] at h1 h2
  obtain ⟨p, hp, e1⟩ := Option.map_eq_some_iff.1 h1
  rw [hp] at h2
  simp at h2
  subst h2
  subst e1
  exact ((h.frs p (List.mem_of_getElem? hp)).below hw).values hs
theorem sorter_at (s : Nat) (cl se : V) (w : World) (H : Nat) (hH : w.heap.size = H) : Calls Try.prog 21 #[.pointer (some ⟨s, 0, none⟩), cl.agg, se.agg] w fun e w' => e = .returned (.pointer (some ⟨H + 2, 0, none⟩)) ∧ w'.heap.size = H + 3 ∧ Below w.heap.size w w' ∧ Blk w' (H + 2) 40 (fcs (-1) cl se (.slice none 0 0) 0 0 0 V.null (ptr s) (-1)) := by
  subst hH
  exact sorter_any s cl se w
theorem kp_below2 {w1 w' : World} {S : Nat → Prop} {B : Nat} (k : Kp S w1 w') (hs : B ≤ w1.heap.size) (hr : ∀ b, S b → B ≤ b) : Below B w1 w' := ⟨k.os, k.tape, k.output, k.size, fun b hb => k.block b (by omega) (fun h => by have := hr b h; omega)⟩
theorem pl_push_below {w w1 w2 : World} {sb base sn : Nat} {lv wv : Value} {ps : List (Nat × FD)} {o : Obj} (h : Pl w sb base sn lv wv ps) (hs : base ≤ w.heap.size) (hk : Kp (fun b => b = sb ∨ lv.ownBlock = some b) w w1) (hg : (w1.alloc o).grownBy w2 wv.ownBlock) (hsb : base ≤ sb := by omega) : Below base w w2 := by
  have k1 : Below base w w1 := kp_below2 hk hs (fun b hb => by
    rcases hb with rfl | hb
    · exact hsb
    · exact (World.ownsRow.lt h.stk.own b hb).1)
  exact (k1.alloc (Nat.le_trans hs hk.size) o).grown hg (by have := hk.size; simp; omega) (fun b hb => (World.ownsRow.lt h.want b hb).1)
theorem nil_or_snoc {α : Type} (l : List α) : l = [] ∨ ∃ q p, l = q ++ [p] := by
  rcases List.eq_nil_or_concat l with h | ⟨q, p, h⟩
  · exact .inl h
  · exact .inr ⟨q, p, by rw [h, List.concat_eq_append]⟩
theorem run_neq_nil_nil {P : Program} (w : World) {tp te : TypeId} (hp : P.underlying tp = some (.pointer te)) : (binOp .neq tp (.pointer none) (.pointer none)).run P w = .ok (.bool false) w := by
  have h : ∀ d : Nat, (Op.equalIn (d + 1) tp (.pointer none) (.pointer none)).run P w = .ok true w := fun d => by simp [Op.equalIn, run_underlying hp]
  simp only [binOp]
  simp [Op.equal, Op.maxDepth, h 9999]
theorem own_form {w : World} {base : Nat} {e : TypeId} {size n : Nat} {v : Value} {xs : List Value} (h : w.ownsRow base e size v n xs) : ∃ A c, v = .slice A n c ∧ n ≤ c := by
  rcases h.2 with ⟨rfl, rfl⟩ | ⟨g, cap, cur, rfl, _, _, hn, _⟩
  · exact ⟨_, _, rfl, Nat.le_refl _⟩
  · exact ⟨_, _, rfl, hn⟩

theorem Rd.one {w : World} {A : Option Addr} {n : Nat} {xs : List Value} (h : Rd w A n 1 xs) {i : Nat} {u : Value} (hi : xs[i]? = some u) : ∃ b o, A = some ⟨b, o, none⟩ ∧ b < w.heap.size ∧ w.cell? ⟨b, o + i, none⟩ = some u := by
  obtain ⟨ad, rfl, hc⟩ := h.2 (fun e => by rw [e] at hi; simp at hi)
  have h1 := hc i u hi
  obtain ⟨b, o, sp⟩ := ad
  have hsp : sp = none := by
    have h0 := hc 0 _ (List.getElem?_eq_getElem (by have := (List.getElem?_eq_some_iff.1 hi).1; omega))
    simpa [Addr.add] using World.cell?_spot h0
  subst hsp
  rw [add_lit] at h1
  exact ⟨b, o, rfl, World.block_lt_of_cell? w _ h1, h1⟩
set_option maxRecDepth 100000 in
set_option maxHeartbeats 4000000 in
theorem frameStacks_walk (np sn cp cs : Nat) (hp : np ≤ 60) (hs : sn ≤ 60) (A B : Option Addr) (zs : List Int) (vs : List V) (w : World) (hz : Rd w A np 1 (zs.map (Value.int .i64))) (hv : RdV w B sn vs) :
    Calls Try.prog 5 #[.slice A np cp, .slice B sn cs] w fun e w' => e = .returned (.bool true) ∧ Below w.heap.size w w' := by
  obtain ⟨i0, hi, hz0, hz1, hz2⟩ := info_parts info35
  have t1 : decide ((60 : Int) < (np : Int)) = false := by simp; omega
  have t2 : decide ((60 : Int) < (sn : Int)) = false := by simp; omega
  have HZ := Lib.hid hz
  have HV := Lib.hid hv
  clear hz hv
  go_enter Try.func5, Try.ntmps5
  go_wp2_with (go_at_call 13; refine (goes20 _).mono ?_; rintro e w1 ⟨rfl, hb1⟩; have HB1 := Lib.hid hb1; clear hb1)
  go_loopg [6, 27] np (fun gk s i wr => ∃ (k : Nat) (ps : List (Nat × FD)) (lv : Value), k ≤ np ∧ gk = np - k ∧ i = .int .i64 k ∧ ps.length ≤ k ∧ Pl wr w1.heap.size w1.heap.size sn lv s ps ∧ Below w1.heap.size w1 wr)
  case atStart => exact ⟨0, [], .slice none 0 0, Nat.zero_le _, rfl, rfl, Nat.zero_le _, ⟨⟨Blk.new _ _ _, rfl, World.ownsRow_nil _ _ _ _, by simp [Value.ownBlock], by simp⟩, World.ownsRow_nil _ _ _ _, by simp [Value.ownBlock], by simp [Value.ownBlock], fun p hp => by simp at hp⟩, below_alloc (Below.refl _ _) _⟩
  case round =>
    obtain ⟨k, ps, lv, hk, hgk, rfl, hpk, hpl, hb⟩ := hrel
    have HG := Lib.hid hgk
    have HP := Lib.hid hpl
    have HB := Lib.hid hb
    clear hgk hpl hb
    by_cases hlt : k < np
    · have hzl : zs.length = np := by have := HZ.out.1; simpa using this
      obtain ⟨x, hx⟩ : ∃ x, zs[k]? = some x := ⟨_, List.getElem?_eq_getElem (by omega)⟩
      obtain ⟨b, o, rfl, hbl, hc⟩ := Rd.one ((HZ.out.below HB1.out).below HB.out) (i := k) (u := .int .i64 x) (by simp [hx])
      clear hzl hx
      by_cases hneg : x < 0
      · have q1 : decide (x < 0) = true := by simpa using hneg
        rcases nil_or_snoc ps with rfl | ⟨qs, p, rfl⟩
        · obtain ⟨A6, c6, hu6⟩ : ∃ A6 c6, u6 = .slice A6 0 c6 := by
            obtain ⟨a, c, e, _⟩ := own_form HP.out.want
            exact ⟨a, c, e⟩
          subst hu6
          have hnn := fun W => run_neq_nil_nil (P := Try.prog) W (tp := 35) Try.underlying35
          clear hneg
          go_wp2_with (go_at_call 20; refine (pop_none (by exact HP.out.stk)).mono ?_; rintro e w2 ⟨rfl, rfl⟩)
          go_roundg (np - (k + 1))
          case rel => exact ⟨k + 1, [], lv, by omega, rfl, by go_num, Nat.zero_le _, HP.out, HB.out⟩
          case measure => have := HG.out; omega
        · have hq : (qs ++ [p]).length = qs.length + 1 := by simp
          obtain ⟨g, c6, rfl, hg1, hg2⟩ := HP.out.want.form (by omega)
          rw [hq] at HP
          have hw0 := (HP.out.want.cells (g := g) rfl qs.length (ptr p.1) (by simp))
          rw [add_lit, Nat.zero_add] at hw0
          have hnc : qs.length + 1 ≤ c6 := by
            obtain ⟨_, _, e, h⟩ := own_form HP.out.want
            injection e with _ _ e
            rw [e]; rw [hq] at h; exact h
          have hst : Hid (Stk wr w1.heap.size 47 [lv] 0 w1.heap.size lv (qs.map (·.1) ++ [p.1])) := by
            have := HP.out.stk
            rw [List.map_append] at this
            exact this
          have hqk : qs.length + 1 ≤ k := by omega
          have h2 : IntKind.i64.wrap (((qs.length + 1 : Nat) : Int) - 1) = (qs.length : Int) := by rw [IntWalk.i64_in _ (by omega)]; omega
          have h3 : (0 : Int) ≤ (qs.length : Int) := by omega
          have h4 : (qs.length : Int) ≤ (c6 : Int) := by omega
          have h5 : (((qs.length + 1 : Nat) : Int) == 0) = false := by simp; omega
          obtain ⟨j40, hj40, hj1⟩ := Option.map_eq_some_iff.1 info40
          have hnn := fun W => Lib.run_neq_ptr_same (P := Try.prog) W (tp := 35) ⟨p.1, 0, none⟩ Try.underlying35 hj40
          have HW := Lib.hid hw0
          clear hneg hj40 hj1 hw0 hq hpk
          go_wp2_with (go_at_call 20; refine (pop_some hst.out (by simp; omega)).mono ?_; rintro e w2 ⟨rfl, lv2, hs2, hk2, ho2⟩; unfold ptr; have hc2 : w2.cell? ⟨g, qs.length, none⟩ = some (.pointer (some ⟨p.1, 0, none⟩)) := (hk2.cell (p := ⟨g, qs.length, none⟩) hg2 (fun h => by rcases h with h | h; exact HP.out.wne (by simp [Value.ownBlock]; exact h); exact HP.out.apart g rfl h)).trans HW.out; have R := Lib.hid (And.intro hs2 (And.intro hk2 ho2)); clear hs2 hk2 ho2)
          go_roundg (np - (k + 1))
          case rel =>
            obtain ⟨hs2, hk2, ho2⟩ := R.out
            refine ⟨k + 1, qs, lv2, by omega, rfl, by go_num, by omega, pl_pop HP.out hs2 hk2 ho2, HB.out.trans (kp_below2 hk2 HB.out.size (fun b hb => ?_))⟩
            rcases hb with rfl | hb
            · exact Nat.le_refl _
            · exact (World.ownsRow.lt HP.out.stk.own b hb).1
          case measure => have := HG.out; omega
      · have q1 : decide (x < 0) = false := by simpa using hneg
        obtain ⟨z, rfl⟩ := Int.eq_ofNat_of_zero_le (by omega : 0 ≤ x)
        by_cases hev : z % 2 = 0
        · have q2 : (((z : Int) % 2) == 0) = true := by simp; omega
          have q3 : (((z % 2 : Nat) : Int) == 0) = true := by simp; omega
          go_wp2_with (first
            | (go_at_call 17; refine (ref_any _ _).mono ?_; rintro e w' ⟨rfl, rfl⟩; unfold V.agg V.ref)
            | (go_at_call 14; refine (int_any _ _).mono ?_; rintro e w' ⟨rfl, rfl⟩; unfold V.agg V.int)
            | (go_at_call 16; refine (new_any _ _ _ _ _ _ _ _ 2 _ (V.ref k) (V.int z) none 0 0 [] _ (by omega) (by omega) (Rd.nil _ _ _) (wr.heap.size + 1 + 1) (by simp)).mono ?_; rintro e w3 ⟨rfl, hsz3, hb3, hr3, hg3⟩; have hbb : Below wr.heap.size wr w3 := below_chain hb3 (below_alloc (below_alloc (Below.refl _ _) _) _); have HP3 : Hid (Pl w3 w1.heap.size w1.heap.size sn lv u6 ps) := HP.out.below hbb; have HB3 : Hid (Below w1.heap.size w1 w3) := HB.out.trans (hbb.mono HB.out.size); have HF3 : Hid (Fr w3 sn (wr.heap.size + 1 + 1 + 4) ⟨V.ref k, V.int z, [V.ref k, V.int z, V.null] ++ [V.null, V.null], false⟩) := .inl ⟨rfl, wr.heap.size + 1 + 1 + 3, [V.null, V.null], _, hg3, hr3, rfl, rfl⟩; clear hsz3 hb3 hr3 hg3 hbb)
            | (go_at_call 23; refine (push_any HP3.out.stk (wr.heap.size + 1 + 1 + 4) (by simp; omega)).mono ?_; rintro e w4 ⟨rfl, lv4, hs4, hk4, hf4⟩; have R4 := Lib.hid (And.intro hs4 (And.intro hk4 hf4)); have HW4 : Hid (w4.ownsRow w1.heap.size 35 1 u6 ps.length ((ps.map (·.1)).map ptr)) := own_kp HP3.out.want hk4 (fun x hx hc => by rcases hc with rfl | hc; exact HP3.out.wne hx; exact HP3.out.apart x hx hc); have HBX : Hid (w1.heap.size ≤ w4.heap.size) := Nat.le_trans HB3.out.size hk4.size; clear hs4 hk4 hf4)
            | (at_builtin; refine wpList_append_rd rfl w1.heap.size (.tmp 70) (.tmp 72) 45 rfl 35 i0 (.pointer none) 1 8 Try.underlying45 hi hz0 hz1 hz2 rfl (by omega) _ ps.length ((ps.map (·.1)).map ptr) (by rfl) (by exact HW4.out.alloc _) (some ⟨w4.heap.size, 0, none⟩) 1 1 [ptr (wr.heap.size + 1 + 1 + 4)] (by rfl) (by exact Rd.of_blk (Blk.made rfl _ [ptr (wr.heap.size + 1 + 1 + 4)]) rfl) (by intro u hu; simp [ptr] at hu; subst hu; rfl) (by unfold maxLen; omega) (by omega) (by have := HBX.out; simp; omega) ?_; intro v5 w5 hown5 hg5 hat5; have R5 := Lib.hid (And.intro hown5 (And.intro hg5 hat5)); clear hown5 hg5 hat5))
          go_roundg (np - (k + 1))
          case rel =>
            obtain ⟨hs4, hk4, hf4⟩ := R4.out
            obtain ⟨hown5, hg5, hat5⟩ := R5.out
            exact ⟨k + 1, ps ++ [(wr.heap.size + 1 + 1 + 4, _)], lv4, by omega, rfl, by go_num, by simp; omega, pl_push HP3.out HF3.out hs4 hk4 hf4 hown5 hg5 hat5, HB3.out.trans (pl_push_below HP3.out HB3.out.size hk4 hg5)⟩
          case measure => have := HG.out; omega
        · have q2 : (((z : Int) % 2) == 0) = false := by simp; omega
          have q3 : (((z % 2 : Nat) : Int) == 0) = false := by simp; omega
          have HVL := Lib.hid (RdV.len HV.out)
          go_wp2_with (first
            | (go_at_call 17; refine (ref_any _ _).mono ?_; rintro e w' ⟨rfl, rfl⟩; unfold V.agg V.ref)
            | (go_at_call 18; refine (null_any _).mono ?_; rintro e w' ⟨rfl, rfl⟩; unfold V.agg V.null)
            | (go_at_call 22; refine (order_new ((((HV.out.below HB1.out).below HB.out))) (by omega)).mono ?_; rintro e w2 ⟨sg, sv, rfl, hsg, hss, hsb⟩; obtain ⟨sA, sc, rfl, _, _⟩ := hss.own.rd; unfold ptr; have RS := Lib.hid (And.intro hsg (And.intro hss hsb)); clear hsg hss hsb)
            | (go_at_call 21; refine (sorter_at sg (V.ref k) V.null _ (w2.heap.size + 1 + 1) (by simp)).mono ?_; rintro e w3 ⟨rfl, hsz3, hb3, hg3⟩; have hbc : Below w2.heap.size w2 w3 := below_chain hb3 (below_alloc (below_alloc (Below.refl _ _) _) _); have hbb : Below wr.heap.size wr w3 := RS.out.2.2.trans (hbc.mono RS.out.2.2.size); have HP3 : Hid (Pl w3 w1.heap.size w1.heap.size sn lv u6 ps) := HP.out.below hbb; have HB3 : Hid (Below w1.heap.size w1 w3) := HB.out.trans (hbb.mono HB.out.size); have HF3 : Hid (Fr w3 sn (w2.heap.size + 1 + 1 + 2) ⟨V.ref k, V.null, [V.ref k, V.null, V.null] ++ [] ++ vs, true⟩) := .inr ⟨rfl, sg, _, vs, _, hg3, RS.out.2.1.below hbc, HVL.out, rfl⟩; clear hsz3 hb3 hg3 hbb hbc)
            | (go_at_call 23; refine (push_any HP3.out.stk (w2.heap.size + 1 + 1 + 2) (by simp; omega)).mono ?_; rintro e w4 ⟨rfl, lv4, hs4, hk4, hf4⟩; have R4 := Lib.hid (And.intro hs4 (And.intro hk4 hf4)); have HW4 : Hid (w4.ownsRow w1.heap.size 35 1 u6 ps.length ((ps.map (·.1)).map ptr)) := own_kp HP3.out.want hk4 (fun x hx hc => by rcases hc with rfl | hc; exact HP3.out.wne hx; exact HP3.out.apart x hx hc); have HBX : Hid (w1.heap.size ≤ w4.heap.size) := Nat.le_trans HB3.out.size hk4.size; clear hs4 hk4 hf4)
            | (at_builtin; refine wpList_append_rd rfl w1.heap.size (.tmp 70) (.tmp 72) 45 rfl 35 i0 (.pointer none) 1 8 Try.underlying45 hi hz0 hz1 hz2 rfl (by omega) _ ps.length ((ps.map (·.1)).map ptr) (by rfl) (by exact HW4.out.alloc _) (some ⟨w4.heap.size, 0, none⟩) 1 1 [ptr (w2.heap.size + 1 + 1 + 2)] (by rfl) (by exact Rd.of_blk (Blk.made rfl _ [ptr (w2.heap.size + 1 + 1 + 2)]) rfl) (by intro u hu; simp [ptr] at hu; subst hu; rfl) (by unfold maxLen; omega) (by omega) (by have := HBX.out; simp; omega) ?_; intro v5 w5 hown5 hg5 hat5; have R5 := Lib.hid (And.intro hown5 (And.intro hg5 hat5)); clear hown5 hg5 hat5))
          go_roundg (np - (k + 1))
          case rel =>
            obtain ⟨hs4, hk4, hf4⟩ := R4.out
            obtain ⟨hown5, hg5, hat5⟩ := R5.out
            exact ⟨k + 1, ps ++ [(w2.heap.size + 1 + 1 + 2, _)], lv4, by omega, rfl, by go_num, by simp; omega, pl_push HP3.out HF3.out hs4 hk4 hf4 hown5 hg5 hat5, HB3.out.trans (pl_push_below HP3.out HB3.out.size hk4 hg5)⟩
          case measure => have := HG.out; omega
    · obtain rfl : k = np := by omega
      obtain ⟨A6, c6, hu6, hc6⟩ := own_form HP.out.want
      subst hu6
      have hlm : (ps.map (·.1)).length = ps.length := by simp
      have q4 : ((ps.length : Int) != (ps.length : Int)) = false := by simp
      go_wp2_with (go_at_call 24; refine (len_any HP.out.stk).mono ?_; rintro e w2 ⟨rfl, rfl⟩)
      obtain ⟨wo, rfl⟩ : ∃ wo : World, wo = wr := ⟨_, rfl⟩
      go_loopg [11, 81] ps.length (fun gk s i wr => ∃ m : Nat, m ≤ ps.length ∧ gk = ps.length - m ∧ i = .int .i64 m ∧ s = .int .i64 (tot ps m : Nat) ∧ Below wo.heap.size wo wr)
      case atStart => exact ⟨0, Nat.zero_le _, rfl, rfl, rfl, Below.refl _ _⟩
      case round =>
        obtain ⟨m, hm, hgk, rfl, rfl, hb⟩ := hrel
        have HG2 := Lib.hid hgk
        have HB2 := Lib.hid hb
        have HP2 := Lib.hid (HP.out.below hb)
        clear hgk hb
        by_cases hlt2 : m < ps.length
        · obtain ⟨p, hp2⟩ : ∃ p, ps[m]? = some p := ⟨_, List.getElem?_eq_getElem hlt2⟩
          have hfr := HP2.out.frs p (List.mem_of_getElem? hp2)
          obtain ⟨g, c, hform, hg1, hg2⟩ := HP2.out.want.form (by omega)
          have hrow := HP2.out.want.cells (g := g) (by rw [hform]; rfl) m (ptr p.1) (by simp [hp2])
          rw [add_lit, Nat.zero_add] at hrow
          injection hform with hA6 _ hA7
          subst hA6
          subst hA7
          have hat : Hid ((ps.map (·.1))[m]? = some p.1) := by show _ = _; simp [hp2]
          have hvl := fr_len hfr hs
          have hsum := vals_sum ps sn (fun q hq => HP.out.frs q hq) hs m
          obtain ⟨p1, ⟨cl, se, vals, so⟩⟩ := p
          simp only at hfr hvl hrow
          have HFR := Lib.hid hfr
          have HPM := Lib.hid hp2
          obtain ⟨j40, hj40, hj1⟩ := Option.map_eq_some_iff.1 info40
          have hnn := fun W => Lib.run_neq_ptr_same (P := Try.prog) W (tp := 35) ⟨p1, 0, none⟩ Try.underlying35 hj40
          have HVV := Lib.hid (hfr.values hs)
          obtain ⟨hcells, hsort⟩ := fr_cells hfr
          clear hfr hp2 hj40 hj1
          unfold ptr at hrow
          obtain ⟨e1, e2, e3, e4, e5, e6, e15, ev0, ev1, hbl2⟩ := hcells
          have HC := Lib.hid (And.intro e1 (And.intro e2 (And.intro e3 (And.intro e4 (And.intro e5 (And.intro e6 (And.intro ev0 (And.intro ev1 hbl2))))))))
          have HSO := Lib.hid hsort
          have HVL := Lib.hid hvl
          have hsum' : ((tot ps m : Nat) : Int) ≤ 10000 := by omega
          have hvl3 : (3 : Int) ≤ (vals.length : Int) := by omega
          have hvl63 : (vals.length : Int) ≤ 63 := by omega
          have q5 : decide (vals.length < 3) = false := by simp; omega
          have q6 : decide ((vals.length : Int) < 3) = false := by simp; omega
          clear e1 e2 e3 e4 e5 e6 ev0 ev1 hsort hvl hsum
          go_wp2_with (first
            | (go_at_call 25; refine (at_in HP2.out.stk hat.out (by simp; omega)).mono ?_; rintro e w2 ⟨rfl, rfl⟩; unfold ptr)
            | (go_at_call 26; refine HVV.out.mono ?_; rintro e w3 ⟨v3, rfl, ho3, hb3⟩; obtain ⟨A3, c3, rfl, hc3, hr3⟩ := ho3.rd; have R3 := Lib.hid (And.intro hr3 (And.intro hb3 hc3)); clear ho3 hr3 hb3 hc3))
          obtain ⟨hr3, hb3, hc3⟩ := R3.out
          obtain ⟨e1, e2, e3, e4, e5, e6, ev0, ev1, hbl2⟩ := HC.out
          obtain ⟨b3, o3, x0, rfl, _, hx0, z0, z1, z2⟩ := RdV.at_ hr3 (i := 0) (by omega)
          obtain ⟨b4, o4, x1, he4, _, hx1, z3, z4, z5⟩ := RdV.at_ hr3 (i := 1) (by omega)
          injection he4 with he4
          injection he4 with he4 ho4
          subst he4; subst ho4
          rw [ev0] at hx0; injection hx0 with hx0; subst hx0
          rw [ev1] at hx1; injection hx1 with hx1; subst hx1
          simp only [Nat.zero_mul, Nat.one_mul, Nat.add_zero] at z0 z1 z2 z3 z4 z5
          have f1 := (hb3.cell (p := ⟨p1, 1, none⟩) hbl2).trans e1
          have f2 := (hb3.cell (p := ⟨p1, 2, none⟩) hbl2).trans e2
          have f3 := (hb3.cell (p := ⟨p1, 3, none⟩) hbl2).trans e3
          have f4 := (hb3.cell (p := ⟨p1, 4, none⟩) hbl2).trans e4
          have f5 := (hb3.cell (p := ⟨p1, 5, none⟩) hbl2).trans e5
          have f6 := (hb3.cell (p := ⟨p1, 6, none⟩) hbl2).trans e6
          have HB3 := Lib.hid hb3
          clear e1 e2 e3 e4 e5 e6 hb3 hr3 hc3 ev0 ev1
          obtain ⟨k1, n1, s1⟩ := cl
          obtain ⟨k2, n2, s2⟩ := se
          simp only at z0 z1 z2 z3 z4 z5 f1 f2 f3 f4 f5 f6
          have i0 : (0 : Int) < (vals.length : Int) := by omega
          have i1 : (1 : Int) < (vals.length : Int) := by omega
          go_quiet (fail)
          have hnn1 := fun W => run_neq_nil_nil (P := Try.prog) W (tp := 38) Try.underlying38
          have hen1 := fun W => run_eql_nil_nil (P := Try.prog) W (tp := 38) Try.underlying38
          rcases HSO.out with ⟨h0, c14⟩ | ⟨h0, s, c14⟩
          · have f14 := (HB3.out.cell (p := ⟨p1, 14, none⟩) hbl2).trans c14
            have q7 : ((vals.length : Int) != 5) = false := by have := HVL.out.2.2.2 h0; simp; omega
            clear c14
            go_wp2
            go_roundg (ps.length - (m + 1))
            case rel => exact ⟨m + 1, by omega, rfl, by go_num, by rw [tot_succ HPM.out]; go_num, HB2.out.trans (below_draw (HB3.out.mono (Nat.le_of_eq rfl)) HB2.out.size)⟩
            case measure => have := HG2.out; omega
          · have f14 := (HB3.out.cell (p := ⟨p1, 14, none⟩) hbl2).trans c14
            have q7 : ((vals.length : Int) != 3 + (sn : Int)) = false := by have := HVL.out.2.2.1 h0; simp; omega
            have hpn := fun W => run_neq_ptr_none (P := Try.prog) W (tp := 38) ⟨s, 0, none⟩ Try.underlying38
            have hpe := fun W => run_eql_ptr_nil (P := Try.prog) W (tp := 38) ⟨s, 0, none⟩ Try.underlying38
            clear c14
            go_wp2
            go_roundg (ps.length - (m + 1))
            case rel => exact ⟨m + 1, by omega, rfl, by go_num, by rw [tot_succ HPM.out]; go_num, HB2.out.trans (below_draw (HB3.out.mono (Nat.le_of_eq rfl)) HB2.out.size)⟩
            case measure => have := HG2.out; omega
        · obtain rfl : m = ps.length := by omega
          have htot : tot ps ps.length = (ps.map (fun p => p.2.vals)).flatten.length := by unfold tot; rw [List.take_length]
          have HT : Hid ((ps.map (fun p => p.2.vals)).flatten.length ≤ 100000) := by
            have := vals_sum ps sn (fun q hq => HP.out.frs q hq) hs ps.length
            show _ ≤ _
            omega
          have hen1 := fun W => run_eql_nil_nil (P := Try.prog) W (tp := 35) Try.underlying35
          have HTT := Lib.hid htot
          clear htot
          go_wp2_with (first
            | (go_at_call 27; refine (stack_values HP2.out.stk (ps.map (fun p => p.2.vals)) (by simp) (pl_values HP2.out hs) HT.out (by simp; omega)).mono ?_; rintro e w3 ⟨v3, rfl, ho3, hb3⟩; obtain ⟨A3, c3, hv3, hc3, hr3⟩ := ho3.rd; rw [← HTT.out] at hv3; subst hv3; have HP3 := Lib.hid (HP2.out.below hb3); have HB3 := Lib.hid hb3; clear ho3 hb3 hc3 hr3)
            | (go_at_call 25; refine (at_out HP3.out.stk _ (by first | (left; omega) | (right; simp)) (by simp; omega)).mono ?_; rintro e w2 ⟨rfl, rfl⟩))
          go_ret
          exact ⟨rfl, HB1.out.trans ((HB.out.trans ((HB2.out.trans (HB3.out.mono HB2.out.size)).mono HB.out.size)).mono HB1.out.size)⟩
end Go.Proofs.Ytpcamgjfikipgaa
