/- The contracts of frame.Stack's methods Len, Top, At, Push and Pop, for a stack whose list is one of the call's own rows. Conditions: no more than some thousands of frames. -/
import Derived.Test.YtpcamgjfikipgaaVals
import Derived.WalkSmall
import Derived.Deep.QuietTactic
import Derived.BigQuiet
namespace Go.Proofs.Ytpcamgjfikipgaa
open Go.RowKit
set_option linter.unusedVariables false

theorem info35 : (Try.prog.info? 35).map (fun i => (i.zero, i.size, i.bytes)) = some (some (.pointer none), 1, 8) := by kernel_rfl
/-- A pointer to the block b. -/
def ptr (b : Nat) : Value := .pointer (some ⟨b, 0, none⟩)
/-- The stack in the block sb, at cell so of its cells cs: its list is lv, one of the rows from base on, of the frames bs. -/
structure Stk (w : World) (sb : Nat) (t : TypeId) (cs : List Value) (so base : Nat) (lv : Value) (bs : List Nat) : Prop where
  blk : Blk w sb t cs
  at_ : cs[so]? = some lv
  own : w.ownsRow base 35 1 lv bs.length (bs.map ptr)
  ne : lv.ownBlock ≠ some sb
  lo : base ≤ w.heap.size
section
variable {w w' : World} {sb : Nat} {t : TypeId} {cs : List Value} {so base : Nat} {lv : Value} {bs : List Nat} {S : Nat → Prop}
theorem Stk.cell (h : Stk w sb t cs so base lv bs) : w.cell? ⟨sb, so, none⟩ = some lv := h.blk.cell h.at_
theorem Stk.kp (h : Stk w sb t cs so base lv bs) (k : Kp S w w') (h1 : ¬ S sb) (h2 : ∀ g, lv.ownBlock = some g → ¬ S g) : Stk w' sb t cs so base lv bs :=
  ⟨h.blk.kp k h1, h.at_, by
    have hg : w.grownBy w' none ∨ True := .inr trivial
    refine ⟨h.own.1, ?_⟩
    rcases h.own.2 with hn | ⟨g, cap, cur, rfl, hb, hgg, rest⟩
    · exact .inl hn
    · exact .inr ⟨g, cap, cur, rfl, hb, (k.block g (Array.getElem?_eq_some_iff.1 hgg).1 (h2 g rfl)).trans hgg, rest⟩, h.ne, Nat.le_trans h.lo k.size⟩
theorem Stk.drewN (h : Stk w sb t cs so base lv bs) (n : Nat) : Stk (w.drewN n) sb t cs so base lv bs := ⟨h.blk, h.at_, h.own, h.ne, h.lo⟩
theorem Stk.drew (h : Stk w sb t cs so base lv bs) : Stk w.drew sb t cs so base lv bs := ⟨h.blk, h.at_, h.own, h.ne, h.lo⟩
theorem Stk.alloc (h : Stk w sb t cs so base lv bs) (o : Obj) : Stk (w.alloc o) sb t cs so base lv bs := h.kp ((Kp.refl (fun _ => False) w).alloc o) id (fun _ _ => id)
/-- What the list's value looks like, and what stands in its row. -/
theorem Stk.form (h : Stk w sb t cs so base lv bs) : (bs = [] ∧ ∃ A c, lv = .slice A 0 c) ∨ ∃ g c, 0 < bs.length ∧ lv = .slice (some ⟨g, 0, none⟩) bs.length c ∧ base ≤ g ∧ bs.length ≤ c ∧ ∀ i b, bs[i]? = some b → w.cell? ⟨g, i, none⟩ = some (ptr b) := by
  rcases Nat.eq_zero_or_pos bs.length with h0 | h0
  · left
    have hb : bs = [] := List.eq_nil_of_length_eq_zero h0
    subst hb
    refine ⟨rfl, ?_⟩
    rcases h.own.2 with ⟨rfl, _⟩ | ⟨g, cap, cur, rfl, _⟩
    · exact ⟨_, _, rfl⟩
    · exact ⟨_, _, rfl⟩
  · right
    rcases h.own.2 with ⟨_, h1⟩ | ⟨g, cap, cur, rfl, hbg, hgg, hnc, _⟩
    · omega
    · refine ⟨g, cap, h0, rfl, hbg, hnc, fun i b hi => ?_⟩
      have := h.own.cells (g := g) rfl i (ptr b) (by simp [hi])
      rwa [add_lit, Nat.zero_add] at this
theorem Stk.len_form (h : Stk w sb t cs so base lv bs) : ∃ A c, lv = .slice A bs.length c := by
  rcases h.form with ⟨rfl, A, c, rfl⟩ | ⟨g, c, _, rfl, _⟩
  · exact ⟨_, _, rfl⟩
  · exact ⟨_, _, rfl⟩

theorem len_any (h : Stk w sb t cs so base lv bs) : Calls Try.prog 24 #[.pointer (some ⟨sb, so, none⟩)] w fun e w' => e = .returned (.int .i64 bs.length) ∧ w = w' := by
  obtain ⟨A, c, rfl⟩ := h.len_form
  have hc := h.cell
  clear h
  go_enter Try.func24, Try.ntmps24
  go_wp2
  go_ret
  exact ⟨rfl, rfl⟩
theorem at_in (h : Stk w sb t cs so base lv bs) {i b : Nat} (hi : bs[i]? = some b) (hn : bs.length ≤ 100000) : Calls Try.prog 25 #[.pointer (some ⟨sb, so, none⟩), .int .i64 i] w fun e w' => e = .returned (ptr b) ∧ w = w' := by
  have hil : i < bs.length := (List.getElem?_eq_some_iff.1 hi).1
  have hc := h.cell
  rcases h.form with ⟨rfl, _⟩ | ⟨g, c, _, rfl, _, hlc, hrr⟩
  · simp at hi
  have hr := hrr i b hi
  clear hrr
  have h1 : decide ((bs.length : Int) ≤ (i : Int)) = false := by simp; omega
  have h2 : (0 : Int) ≤ (i : Int) := by omega
  have h3 : (i : Int) < (bs.length : Int) := by omega
  unfold ptr at hr ⊢
  clear h hi hlc
  go_enter Try.func25, Try.ntmps25
  go_wp2
  go_ret
  exact ⟨rfl, rfl⟩
theorem at_out (h : Stk w sb t cs so base lv bs) (i : Int) (hi : i < 0 ∨ bs.length ≤ i) (hn : bs.length ≤ 100000) : Calls Try.prog 25 #[.pointer (some ⟨sb, so, none⟩), .int .i64 i] w fun e w' => e = .returned (.pointer none) ∧ w = w' := by
  have hc := h.cell
  obtain ⟨A, c, rfl⟩ := h.len_form
  clear h
  by_cases h0 : i < 0
  · have h1 : decide (i < 0) = true := by simpa using h0
    clear hi
    go_enter Try.func25, Try.ntmps25
    go_wp2
    go_ret
    exact ⟨rfl, rfl⟩
  · have h1 : decide (i < 0) = false := by simpa using h0
    have h2 : decide ((bs.length : Int) ≤ i) = true := by simp; omega
    clear hi
    go_enter Try.func25, Try.ntmps25
    go_wp2
    go_ret
    exact ⟨rfl, rfl⟩
theorem top_none (h : Stk w sb t cs so base lv []) : Calls Try.prog 33 #[.pointer (some ⟨sb, so, none⟩)] w fun e w' => e = .returned (.pointer none) ∧ w = w' := by
  have hc := h.cell
  obtain ⟨A, c, rfl⟩ := h.len_form
  clear h
  go_enter Try.func33, Try.ntmps33
  go_wp2
  go_ret
  exact ⟨rfl, rfl⟩
theorem top_some (h : Stk w sb t cs so base lv bs) {b : Nat} (hb : bs.getLast? = some b) (hn : bs.length ≤ 100000) : Calls Try.prog 33 #[.pointer (some ⟨sb, so, none⟩)] w fun e w' => e = .returned (ptr b) ∧ ∃ n, w' = w.drewN n := by
  have hc := h.cell
  rcases h.form with ⟨rfl, _⟩ | ⟨g, c, h0, rfl, _, hlc, hrr⟩
  · simp at hb
  obtain ⟨n, hnn⟩ : ∃ n, bs.length = n + 1 := ⟨bs.length - 1, by omega⟩
  have hr := hrr n b (by rw [List.getLast?_eq_getElem?, hnn] at hb; simpa using hb)
  clear hrr
  rw [hnn] at hc hn hlc
  have h1 : (((n + 1 : Nat) : Int) == 0) = false := by simp; omega
  have h2 : IntKind.i64.wrap (((n + 1 : Nat) : Int) - 1) = (n : Int) := by rw [IntWalk.i64_in _ (by omega)]; omega
  have h3 : (0 : Int) ≤ (n : Int) := by omega
  unfold ptr at hr ⊢
  clear h hb hnn h0 hlc
  go_enter Try.func33, Try.ntmps33
  go_wp2
  go_quiet (fail)
  go_wp2
  go_ret
  exact ⟨rfl, _, rfl⟩
end

/-- What Push leaves. -/
def Pushed (w : World) (sb : Nat) (t : TypeId) (cs : List Value) (so base : Nat) (lv : Value) (bs : List Nat) (e : Ending) (w' : World) : Prop :=
  e = .returned (.tuple #[]) ∧ ∃ lv', Stk w' sb t (cs.set so lv') so base lv' bs ∧ Kp (fun b => b = sb ∨ lv.ownBlock = some b) w w' ∧ (∀ g, lv'.ownBlock = some g → lv.ownBlock = some g ∨ w.heap.size ≤ g)
theorem grown_kp {w w1 : World} {sb : Nat} {t : TypeId} {cs : List Value} {so base : Nat} {lv : Value} {bs : List Nat} {o : Obj} (h : Stk w sb t cs so base lv bs) (hg : (w.alloc o).grownBy w1 lv.ownBlock) : Kp (fun b => lv.ownBlock = some b) w w1 :=
  ((Kp.refl (fun b => lv.ownBlock = some b) w).alloc o).trans (Kp.of_grown hg (fun g e => e)) (fun b _ hb => hb)
theorem pushed_end {w w1 : World} {sb : Nat} {t : TypeId} {cs : List Value} {so base : Nat} {lv : Value} {bs : List Nat} {b g c : Nat} (h : Stk w sb t cs so base lv bs) (k : Kp (fun b => lv.ownBlock = some b) w w1)
    (hown : w1.ownsRow base 35 1 (.slice (some ⟨g, 0, none⟩) (bs.length + 1) c) (bs.length + 1) (bs.map ptr ++ [ptr b])) (hat : (Value.slice (some ⟨g, 0, none⟩) (bs.length + 1) c).ownBlock = lv.ownBlock ∨ (Value.slice (some ⟨g, 0, none⟩) (bs.length + 1) c).ownBlock = some (w.heap.size + 1)) :
    Pushed w sb t cs so base lv (bs ++ [b]) (.returned (.tuple #[])) (w1.setCell ⟨sb, so, none⟩ (.slice (some ⟨g, 0, none⟩) (bs.length + 1) c)) := by
  have hlt := h.blk.lt
  have hb1 : Blk w1 sb t cs := h.blk.kp k h.ne
  have hne : (Value.slice (some ⟨g, 0, none⟩) (bs.length + 1) c).ownBlock ≠ some sb := by
    rcases hat with e | e
    · rw [e]; exact h.ne
    · rw [e]; intro e2; injection e2 with e2; omega
  have hso : so < cs.length := (List.getElem?_eq_some_iff.1 h.at_).1
  refine ⟨rfl, _, ⟨hb1.set_ so _, by rw [List.getElem?_set]; simp [hso], ?_, hne, ?_⟩, ?_, ?_⟩
  · have h1 : w1.ownsRow base 35 1 (.slice (some ⟨g, 0, none⟩) (bs.length + 1) c) (bs ++ [b]).length ((bs ++ [b]).map ptr) := by simpa using hown
    refine h1.kept (row := some sb) ⟨rfl, rfl, rfl, by simp [World.setCell], fun k _ hk => Below.heap_setCell _ _ _ _ (fun e => hk (by rw [e]))⟩ (.inr hne)
  · have := h.lo; have := k.size; simp [World.setCell]; omega
  · exact (k.mono (T := fun b => b = sb ∨ lv.ownBlock = some b) (fun _ _ hb => .inr hb)).setCell (.inr (.inl rfl)) _
  · intro g' hg'
    rcases hat with e | e
    · exact .inl (by rw [← e]; exact hg')
    · right; rw [e] at hg'; injection hg' with hg'; omega
set_option maxRecDepth 100000 in
theorem push_any {w : World} {sb : Nat} {t : TypeId} {cs : List Value} {so base : Nat} {lv : Value} {bs : List Nat} (h : Stk w sb t cs so base lv bs) (b : Nat) (hn : bs.length ≤ 100000) :
    Calls Try.prog 23 #[.pointer (some ⟨sb, so, none⟩), ptr b] w (Pushed w sb t cs so base lv (bs ++ [b])) := by
  obtain ⟨i0, hi, hz0, hz1, hz2⟩ := info_parts info35
  have hc := h.cell
  have H := Lib.hid h
  have hlt := h.blk.lt
  clear h
  unfold ptr
  go_enter Try.func23, Try.ntmps23
  go_wp2_with (at_builtin; refine wpList_append_rd rfl base (.tmp 8) (.tmp 10) 45 rfl 35 i0 (.pointer none) 1 8 Try.underlying45 hi hz0 hz1 hz2 rfl (by omega) lv bs.length (bs.map ptr) (by rfl) (by exact H.out.own.alloc _) (some ⟨w.heap.size, 0, none⟩) 1 1 [ptr b] (by rfl) (by exact Rd.of_blk (Blk.made rfl _ [ptr b]) rfl) (by intro u hu; simp [ptr] at hu; subst hu; rfl) (by unfold maxLen; omega) (by omega) (by have := H.out.lo; simp; omega) ?_; intro v1 w1 hown1 hg1 hat1; obtain ⟨g1, c1, rfl, hlo1, hlt1⟩ := hown1.form (by omega); have k1 := grown_kp H.out hg1; have hc1 := (k1.cell (p := ⟨sb, so, none⟩) hlt H.out.ne).trans H.out.cell; have hf1 := (k1.frozen (p := ⟨sb, so, none⟩) hlt H.out.ne).trans (H.out.blk.frozen so); have F1 := Lib.hid (And.intro hown1 (And.intro hat1 hlo1)); clear hg1 hown1 hat1 hlo1)
  go_end0
  obtain ⟨hown1, hat1, hlo1⟩ := F1.out
  exact pushed_end H.out k1 hown1 (by simpa using hat1)

theorem pop_none {w : World} {sb : Nat} {t : TypeId} {cs : List Value} {so base : Nat} {lv : Value} (h : Stk w sb t cs so base lv []) : Calls Try.prog 20 #[.pointer (some ⟨sb, so, none⟩)] w fun e w' => e = .returned (.pointer none) ∧ w = w' := by
  go_enter Try.func20, Try.ntmps20
  go_wp2_with (go_at_call 33; refine (top_none h).mono ?_; rintro e w' ⟨rfl, rfl⟩)
  go_ret
  exact ⟨rfl, rfl⟩
/-- What Pop leaves where there is one. -/
def Popped (w : World) (sb : Nat) (t : TypeId) (cs : List Value) (so base : Nat) (lv : Value) (bs : List Nat) (b : Nat) (e : Ending) (w' : World) : Prop :=
  e = .returned (ptr b) ∧ ∃ lv', Stk w' sb t (cs.set so lv') so base lv' bs ∧ Kp (fun b => b = sb ∨ lv.ownBlock = some b) w w' ∧ lv'.ownBlock = lv.ownBlock
theorem popped_end {w w' : World} {sb : Nat} {t : TypeId} {cs : List Value} {so base : Nat} {g n c : Nat} {bs : List Nat} {b : Nat} (h : Stk w sb t cs so base (.slice (some ⟨g, 0, none⟩) (bs ++ [b]).length c) (bs ++ [b])) (hn : n = bs.length)
    (hw : w'.os = w.os ∧ w'.tape = w.tape ∧ w'.output = w.output ∧ w'.heap = ((w.setCell ⟨g, n, none⟩ (.pointer none)).setCell ⟨sb, so, none⟩ (.slice (some ⟨g, 0, none⟩) n c)).heap) :
    Popped w sb t cs so base (.slice (some ⟨g, 0, none⟩) (bs ++ [b]).length c) bs b (.returned (ptr b)) w' := by
  obtain ⟨h1, h2, h3, h4⟩ := hw
  subst hn
  have hlt := h.blk.lt
  have hne : g ≠ sb := fun e => h.ne (by simp [Value.ownBlock, e])
  have hso : so < cs.length := (List.getElem?_eq_some_iff.1 h.at_).1
  have hlen : (bs ++ [b]).length = bs.length + 1 := by simp
  have k1 : Kp (fun k => k = sb ∨ (Value.slice (some ⟨g, 0, none⟩) (bs ++ [b]).length c).ownBlock = some k) w ((w.setCell ⟨g, bs.length, none⟩ (.pointer none)).setCell ⟨sb, so, none⟩ (.slice (some ⟨g, 0, none⟩) bs.length c)) :=
    ((Kp.refl _ w).setCell (.inr (.inr rfl)) _).setCell (.inr (.inl rfl)) _
  have k2 : Kp (fun k => k = sb ∨ (Value.slice (some ⟨g, 0, none⟩) (bs ++ [b]).length c).ownBlock = some k) w w' := ⟨h1, h2, h3, by rw [h4]; exact k1.size, fun k hk hn => by rw [h4]; exact k1.block k hk hn⟩
  have ho := h.own
  rw [hlen] at ho
  have hst := (ho.stored bs.length (.pointer none)).1
  have hl2 : ((bs ++ [b]).map ptr).set bs.length (.pointer none) = bs.map ptr ++ [.pointer none] := by
    simp
  rw [hl2] at hst
  have hst2 := ownsRow_pop (by simp) hst
  have hown : w'.ownsRow base 35 1 (.slice (some ⟨g, 0, none⟩) bs.length c) bs.length (bs.map ptr) := by
    have h5 := hst2.kept (w' := (w.setCell ⟨g, bs.length, none⟩ (.pointer none)).setCell ⟨sb, so, none⟩ (.slice (some ⟨g, 0, none⟩) bs.length c)) (row := some sb) ⟨rfl, rfl, rfl, by simp [World.setCell], fun k _ hk => Below.heap_setCell _ _ _ _ (fun e => hk (by rw [e]))⟩ (.inr (by simpa [Value.ownBlock] using hne))
    refine ⟨h5.1, ?_⟩
    rcases h5.2 with h6 | ⟨g', cap, cur, e1, e2, e3, e4⟩
    · exact .inl h6
    · exact .inr ⟨g', cap, cur, e1, e2, by rw [h4]; exact e3, e4⟩
  refine ⟨rfl, _, ⟨?_, by rw [List.getElem?_set]; simp [hso], hown, by simpa [Value.ownBlock] using hne, Nat.le_trans h.lo k2.size⟩, k2, rfl⟩
  have hb := (h.blk.far (p := ⟨g, bs.length, none⟩) (Ne.symm hne) (.pointer none)).set_ so (.slice (some ⟨g, 0, none⟩) bs.length c)
  unfold Blk at hb ⊢
  rw [h4]
  exact hb
set_option maxRecDepth 100000 in
theorem pop_some {w : World} {sb : Nat} {t : TypeId} {cs : List Value} {so base : Nat} {lv : Value} {bs : List Nat} {b : Nat} (h : Stk w sb t cs so base lv (bs ++ [b])) (hn : bs.length < 100000) :
    Calls Try.prog 20 #[.pointer (some ⟨sb, so, none⟩)] w (Popped w sb t cs so base lv bs b) := by
  have H := Lib.hid h
  have hc := h.cell
  have hfz := h.blk.frozen so
  have hlb : (bs ++ [b]).length = bs.length + 1 := by simp
  rcases h.form with ⟨he, _⟩ | ⟨g, c, h0, rfl, hbg, hlc, hrr⟩
  · simp at he
  have hr := hrr bs.length b (by simp)
  have hrl : ⟨g, bs.length, none⟩ ≠ (⟨sb, so, none⟩ : Addr) := fun e => h.ne (by injection e with e; simp [Value.ownBlock, e])
  have hfr : w.frozen? ⟨g, bs.length, none⟩ = false := by
    rcases h.own.2 with ⟨e, _⟩ | ⟨g', cap, cur, e, _, hgg, _⟩
    · cases e
    · injection e with e; injection e with e; injection e with e; subst e; simp [World.frozen?, hgg]
  rw [hlb] at hc hlc
  generalize hN : bs.length = n at *
  have HN := Lib.hid hN
  have h2 : IntKind.i64.wrap (((n + 1 : Nat) : Int) - 1) = (n : Int) := by rw [IntWalk.i64_in _ (by omega)]; omega
  have h3 : (0 : Int) ≤ (n : Int) := by omega
  have hnc : (n : Int) ≤ (c : Int) := by omega
  clear h hrr hN h0 hlb
  unfold ptr at hr
  go_enter Try.func20, Try.ntmps20
  go_wp2_with (go_at_call 33; refine (top_some H.out (b := b) (by simp) (by have := HN.out; simp; omega)).mono ?_; rintro e w' ⟨rfl, nn, rfl⟩; unfold ptr)
  go_region
  go_wp2
  go_region
  go_wp2
  go_ret
  refine popped_end (n := n) H.out HN.out.symm ?_
  exact ⟨rfl, rfl, rfl, rfl⟩
end Go.Proofs.Ytpcamgjfikipgaa
