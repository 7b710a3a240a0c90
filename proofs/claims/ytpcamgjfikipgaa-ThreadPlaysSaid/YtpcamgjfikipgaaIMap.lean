/- A map of ints that this call made: what stands at each key, and how many keys there are. Conditions: fewer than some thousands of keys. -/
import Derived.Test.YtpcamgjfikipgaaCatches
import Derived.Maps.RangeWalk
import Derived.Maps.OwnSet
import Derived.Maps.Views
namespace Go.Proofs.Ytpcamgjfikipgaa
open Go.RowKit Go.WideShapes Go.Maps
set_option linter.unusedVariables false
/-- How elements are read. -/
structure El (α : Type) where
  val : α → Value
  cd : α → DataW Unit
  R : Value → Option (DataW Unit × List MemPlace)
  hR : ∀ x, R (val x) = some (cd x, [])
  inv : ∀ v y, R v = some y → ∃ x, v = val x ∧ y.1 = cd x
  inj : ∀ x y, cd x = cd y → x = y
/-- Pointers to blocks; none: nil. -/
def elP : El (Option Nat) where
  val := fun x => match x with | some b => .pointer (some ⟨b, 0, none⟩) | none => .pointer none
  cd := fun x => match x with | some b => .lit (.int .i64 b) | none => .lit (.int .i64 (-1))
  R := fun v => match v with
    | .pointer (some ⟨b, 0, none⟩) => some (.lit (.int .i64 b), [])
    | .pointer none => some (.lit (.int .i64 (-1)), [])
    | _ => none
  hR := fun x => by cases x <;> rfl
  inv := fun v y h => by
    split at h
    · rename_i b
      injection h with h
      exact ⟨some b, rfl, by rw [← h]⟩
    · injection h with h
      exact ⟨none, rfl, by rw [← h]⟩
    · cases h
  inj := fun x y h => by
    cases x <;> cases y <;> simp at h ⊢ <;> omega
/-- Ints. -/
def elI : El Int where
  val := fun x => .int .i64 x
  cd := fun x => .lit (.int .i64 x)
  R := fun v => match v with | .int .i64 x => some (.lit (.int .i64 x), []) | _ => none
  hR := fun x => rfl
  inv := fun v y h => by
    split at h
    · rename_i x
      injection h with h
      exact ⟨x, rfl, by rw [← h]⟩
    · cases h
  inj := fun x y h => by simpa using h
def wfk (k : Int) : Prop := (Lit.int .i64 k).wf = true
/-- The map. -/
def IM {α : Type} (E : El α) (w : World) (b : Nat) (f : Int → Option α) (sz : Nat) : Prop :=
  ∃ (D : DataW Unit), w.ownsMap Try.prog 3 E.R b sz D ∧ Maps.size D = sz ∧ ∀ k, wfk k → (Maps.has D (.int .i64 k) = (f k).isSome ∧ ∀ x, f k = some x → ∀ zd, D.atKey (.int .i64 k) zd = E.cd x)
def upd {α : Type} (f : Int → Option α) (k : Int) (x : Option α) : Int → Option α := fun j => if j = k then x else f j
theorem keyed3 : Maps.Keyed Try.prog 3 := Maps.int_keyed Try.underlying3
theorem tight {w : World} {R : Value → Option (DataW Unit × List MemPlace)} {b n : Nat} {D : DataW Unit} (h : w.ownsMap Try.prog 3 R b n D) : w.ownsMap Try.prog 3 R b (Maps.size D) D := by
  obtain ⟨es, clock, hb, F, hs, rfl⟩ := h
  exact ⟨es, clock, hb, F, by simp [Maps.size, length_sorted], rfl⟩
theorem IM.new {α : Type} (E : El α) (w : World) : IM E (w.alloc (.map #[] 0)) w.heap.size (fun _ => none) 0 :=
  ⟨.map [], World.ownsMap_made w Try.prog 3 E.R, rfl, fun k hk => ⟨rfl, fun x h => by cases h⟩⟩
theorem IM.lt {α : Type} {E : El α} {w : World} {b : Nat} {f : Int → Option α} {sz : Nat} (h : IM E w b f sz) : b < w.heap.size := by
  obtain ⟨D, h, _⟩ := h
  exact h.lt
theorem IM.kp {α : Type} {E : El α} {w w' : World} {S : Nat → Prop} {b : Nat} {f : Int → Option α} {sz : Nat} (h : IM E w b f sz) (k : Kp S w w') (hn : ¬ S b) : IM E w' b f sz := by
  obtain ⟨D, h, h1, h2⟩ := h
  obtain ⟨es, clock, hb, rest⟩ := h
  exact ⟨D, ⟨es, clock, (k.block b (Array.getElem?_eq_some_iff.1 hb).1 hn).trans hb, rest⟩, h1, h2⟩
theorem IM.look {α : Type} {E : El α} {w : World} {b : Nat} {f : Int → Option α} {sz : Nat} (h : IM E w b f sz) {t e : TypeId} (ht : Try.prog.underlying t = some (.map 3 e)) {z : α} (hz : ∀ W, (zeroValue e).run Try.prog W = .ok (E.val z) W) {k : Int} (hk : wfk k) :
    (Instr.lookup t (.map (some b)) (.int .i64 k) false).run Try.prog w = .ok (E.val ((f k).getD z)) w := by
  obtain ⟨D, h, h1, h2⟩ := h
  obtain ⟨v, ps, hrun, hv⟩ := h.lookup keyed3 ht (hz w) (E.hR z) (keyOf_int_mk Try.underlying3 hk)
  rw [hrun]
  obtain ⟨x, rfl, hx⟩ := E.inv v _ hv
  obtain ⟨a1, a2⟩ := h2 k hk
  rcases hf : f k with _ | y
  · rw [hf] at a1
    simp only at hx
    rw [atKey_of_not_has a1] at hx
    rw [← E.inj _ _ hx]; rfl
  · simp only at hx
    rw [a2 y hf] at hx
    rw [← E.inj _ _ hx]; rfl
theorem IM.put {α : Type} {E : El α} {w : World} {b : Nat} {f : Int → Option α} {sz : Nat} (h : IM E w b f sz) {t e : TypeId} (ht : Try.prog.underlying t = some (.map 3 e)) (hs : sz < 100000) {k : Int} (hk : wfk k) (x : α) :
    ∃ w', (Instr.mapUpdate t (.map (some b)) (.int .i64 k) (E.val x)).run Try.prog w = .ok () w' ∧ IM E w' b (upd f k (some x)) (if (f k).isSome then sz else sz + 1) ∧ w.grownBy w' (some b) ∧ w'.heap.size = w.heap.size := by
  obtain ⟨D, h, h1, h2⟩ := h
  have hkk := keyOf_int_mk Try.underlying3 hk
  obtain ⟨w', hrun, ho, ht'⟩ := h.store keyed3 ht (by unfold maxLen; omega) hkk (E.hR x)
  have hsz : Maps.size (D.put (.int .i64 k) (E.cd x)) = if (f k).isSome then sz else sz + 1 := by
    rw [size_put (h.tidy keyed3), (h2 k hk).1, h1]
  refine ⟨w', hrun, ⟨_, hsz ▸ tight ho, hsz, fun j hj => ?_⟩, ht'.grown, ?_⟩
  · by_cases hjk : j = k
    · subst hjk
      refine ⟨?_, fun y hy zd => ?_⟩
      · rw [has_put_same h.isMap (by exact trivial)]; simp [upd]
      · simp [upd] at hy
        subst hy
        exact atKey_put_same h.isMap (by exact trivial) _ _
    · have hne : (Lit.int .i64 j) ≠ (Lit.int .i64 k) := fun e => hjk (by injection e)
      refine ⟨?_, fun y hy zd => ?_⟩
      · rw [has_put_other hne, (h2 j hj).1]; simp [upd, hjk]
      · simp [upd, hjk] at hy
        rw [atKey_put_other hne]
        exact (h2 j hj).2 y hy zd
  · obtain ⟨es, clock, es', clock', hb, rfl⟩ := ht'
    simp [Go.ChangeMaps.setBlock]
theorem IM.del {α : Type} {E : El α} {w : World} {b : Nat} {f : Int → Option α} {sz : Nat} (h : IM E w b f sz) {t e : TypeId} (ht : Try.prog.underlying t = some (.map 3 e)) {k : Int} (hk : wfk k) (ty : TypeId) :
    ∃ w', (Builtin.delete_ #[t, 3] ty #[.map (some b), .int .i64 k]).run Try.prog w = .ok (.tuple #[]) w' ∧ IM E w' b (upd f k none) (if (f k).isSome then sz - 1 else sz) ∧ w.grownBy w' (some b) ∧ w'.heap.size = w.heap.size := by
  obtain ⟨D, h, h1, h2⟩ := h
  have hkk := keyOf_int_mk Try.underlying3 hk
  obtain ⟨w', hrun, ho, ht'⟩ := h.drop keyed3 ht hkk ty
  have hsz : Maps.size (D.del (.int .i64 k)) = if (f k).isSome then sz - 1 else sz := by
    have := size_del (h.tidy keyed3) (k := .int .i64 k)
    rw [(h2 k hk).1, h1] at this
    by_cases hc : (f k).isSome = true
    · rw [if_pos hc] at this ⊢; omega
    · rw [if_neg hc] at this ⊢; omega
  refine ⟨w', hrun, ⟨_, hsz ▸ tight ho, hsz, fun j hj => ?_⟩, ht'.grown, ?_⟩
  · by_cases hjk : j = k
    · subst hjk
      refine ⟨?_, fun y hy zd => ?_⟩
      · rw [has_del_same]; simp [upd]
      · simp [upd] at hy
    · have hne : (Lit.int .i64 j) ≠ (Lit.int .i64 k) := fun e => hjk (by injection e)
      refine ⟨?_, fun y hy zd => ?_⟩
      · rw [has_del_other hne, (h2 j hj).1]; simp [upd, hjk]
      · simp [upd, hjk] at hy
        rw [atKey_del_other hne]
        exact (h2 j hj).2 y hy zd
  · obtain ⟨es, clock, es', clock', hb, rfl⟩ := ht'
    simp [Go.ChangeMaps.setBlock]
theorem IM.len {α : Type} {E : El α} {w : World} {b : Nat} {f : Int → Option α} {sz : Nat} (h : IM E w b f sz) {t e : TypeId} (ht : Try.prog.underlying t = some (.map 3 e)) (ty : TypeId) : (Builtin.len_ #[t] ty #[.map (some b)]).run Try.prog w = .ok (.int .i64 sz) w := by
  obtain ⟨D, h, h1, h2⟩ := h
  rw [h.len ht ty, h1]
end Go.Proofs.Ytpcamgjfikipgaa
