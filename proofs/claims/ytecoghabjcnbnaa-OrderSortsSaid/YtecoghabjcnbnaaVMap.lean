/- A map from number values to bools that this call made: what stands at each number, and how many keys there are. Conditions: fewer than some thousands of keys; numbers of 64 bits. -/
import Derived.Test.YtecoghabjcnbnaaOpen
import Derived.Test.YtecoghabjcnbnaaClones
import Derived.DeepKeys4
import Derived.Maps.OwnSet
import Derived.Maps.Views
namespace Go.Proofs.Ytecoghabjcnbnaa
open Go.RowKit Go.WideShapes Go.Maps
set_option linter.unusedVariables false
/-- How bools are read. -/
def rdB (v : Value) : Option (DataW Unit × List MemPlace) := match v with | .bool x => some (.lit (.bool x), []) | _ => none
theorem rdB_inv {v : Value} {y : DataW Unit × List MemPlace} (h : rdB v = some y) : ∃ x, v = .bool x ∧ y.1 = .lit (.bool x) := by
  unfold rdB at h
  split at h
  · rename_i x; injection h with h; exact ⟨x, rfl, by rw [← h]⟩
  · cases h
def wfk (k : Int) : Prop := (Lit.int .i64 k).wf = true
theorem keyed26 : Maps.Keyed Try.prog 26 := Maps.Keyed.of_law (deep_law_laid laidOut (m := 3) (by omega) (of_decide_eq_true (by kernel_rfl)) (by kernel_rfl) (by rw [Try.underlying26]))
noncomputable def kl (n : Int) : Lit := (keyOf Try.prog 26 (V.int n).agg).getD (.bool false)
theorem sizes_some : ∃ m, Try.prog.types.size = m + 3 := ⟨Try.prog.types.size - 3, by decide +kernel⟩
set_option maxRecDepth 100000 in
theorem key_any {n : Int} (h : wfk n) : keyOf Try.prog 26 (V.int n).agg = some (kl n) := by
  have e : (keyOf Try.prog 26 (V.int n).agg).isSome = true := by
    obtain ⟨m, hm⟩ := sizes_some
    have hf : (Value.agg #[.int .i64 2, .int .i64 n, .string ⟨#[]⟩]).formed Try.prog 26 = true := by
      unfold Value.formed; rw [Try.underlying26]; kernel_rfl
    have hkt : Try.prog.keyType 26 = true := by kernel_rfl
    unfold V.agg V.int keyOf
    rw [Try.underlying26]
    simp only
    rw [if_pos (by rw [hkt, hf]; rfl), hm]
    have hw := h
    unfold wfk at hw
    have h2 : (Lit.int .i64 2).wf = true := by decide
    have hc : Try.prog.cellsOf 26 = 3 := by kernel_rfl
    have c3 : Try.prog.cellsOf 3 = 1 := by kernel_rfl
    have c2 : Try.prog.cellsOf 2 = 1 := by kernel_rfl
    have c9 : Try.prog.cellsOf 9 = 1 := by kernel_rfl
    unfold Program.keyLits
    rw [Try.underlying26]
    simp [Value.cells, hc, c3, c2, c9, Program.keyLits, Try.underlying3, Try.underlying2, Try.underlying9, hw, h2, maxLen, show ByteArray.size ⟨#[]⟩ = 0 from rfl]
  obtain ⟨l, hl⟩ := Option.isSome_iff_exists.1 e
  unfold kl
  rw [hl]; rfl
theorem kl_inj {a b : Int} (ha : wfk a) (hb : wfk b) (h : kl a = kl b) : a = b := by
  have := keyed26.inj (key_any ha) (h ▸ key_any hb)
  unfold V.agg V.int at this
  simpa using this
/-- The map: f tells what stands at a number, if anything does. -/
def SM (w : World) (b : Nat) (f : Int → Bool) (sz : Nat) : Prop :=
  ∃ (D : DataW Unit), w.ownsMap Try.prog 26 rdB b sz D ∧ Maps.size D = sz ∧ ∀ n, wfk n → (Maps.has D (kl n) = f n ∧ (f n = true → ∀ zd, D.atKey (kl n) zd = .lit (.bool true)))
theorem tight {w : World} {R : Value → Option (DataW Unit × List MemPlace)} {b n : Nat} {D : DataW Unit} (h : w.ownsMap Try.prog 26 R b n D) : w.ownsMap Try.prog 26 R b (Maps.size D) D := by
  obtain ⟨es, clock, hb, F, hs, rfl⟩ := h
  exact ⟨es, clock, hb, F, by simp [Maps.size, length_sorted], rfl⟩
theorem SM.new (w : World) : SM (w.alloc (.map #[] 0)) w.heap.size (fun _ => false) 0 :=
  ⟨.map [], World.ownsMap_made w Try.prog 26 rdB, rfl, fun k hk => ⟨rfl, fun h => by cases h⟩⟩
theorem SM.lt {w : World} {b : Nat} {f : Int → Bool} {sz : Nat} (h : SM w b f sz) : b < w.heap.size := by
  obtain ⟨D, h, _⟩ := h
  exact h.lt
theorem SM.kp {w w' : World} {S : Nat → Prop} {b : Nat} {f : Int → Bool} {sz : Nat} (h : SM w b f sz) (k : Kp S w w') (hn : ¬ S b) : SM w' b f sz := by
  obtain ⟨D, h, h1, h2⟩ := h
  obtain ⟨es, clock, hb, rest⟩ := h
  exact ⟨D, ⟨es, clock, (k.block b (Array.getElem?_eq_some_iff.1 hb).1 hn).trans hb, rest⟩, h1, h2⟩
theorem SM.below {w w' : World} {b : Nat} {f : Int → Bool} {sz : Nat} (h : SM w b f sz) (k : Below w.heap.size w w') : SM w' b f sz := h.kp (S := fun _ => False) (Kp.of_below k) id
theorem SM.look {w : World} {b : Nat} {f : Int → Bool} {sz : Nat} (h : SM w b f sz) {t e : TypeId} (ht : Try.prog.underlying t = some (.map 26 e)) (hz : ∀ W, (zeroValue e).run Try.prog W = .ok (.bool false) W) {n : Int} (hn : wfk n) :
    (Instr.lookup t (.map (some b)) (V.int n).agg false).run Try.prog w = .ok (.bool (f n)) w := by
  obtain ⟨D, h, h1, h2⟩ := h
  obtain ⟨v, ps, hrun, hv⟩ := h.lookup keyed26 ht (hz w) (show rdB (.bool false) = some (.lit (.bool false), []) from rfl) (key_any hn)
  rw [hrun]
  obtain ⟨x, rfl, hx⟩ := rdB_inv hv
  simp only at hx
  obtain ⟨a1, a2⟩ := h2 n hn
  rcases hf : f n with _ | _
  · rw [hf] at a1
    rw [atKey_of_not_has a1] at hx
    injection hx with hx; injection hx with hx
    rw [← hx]
  · rw [a2 hf] at hx
    injection hx with hx; injection hx with hx
    rw [← hx]
def updB (f : Int → Bool) (k : Int) : Int → Bool := fun j => if j = k then true else f j
theorem SM.put {w : World} {b : Nat} {f : Int → Bool} {sz : Nat} (h : SM w b f sz) {t e : TypeId} (ht : Try.prog.underlying t = some (.map 26 e)) (hs : sz < 100000) {n : Int} (hn : wfk n) (hf : f n = false) :
    ∃ w', (Instr.mapUpdate t (.map (some b)) (V.int n).agg (.bool true)).run Try.prog w = .ok () w' ∧ SM w' b (updB f n) (sz + 1) ∧ w.grownBy w' (some b) ∧ w'.heap.size = w.heap.size := by
  obtain ⟨D, h, h1, h2⟩ := h
  have hkk := key_any hn
  have hlit := keyed26.key hkk
  obtain ⟨w', hrun, ho, ht'⟩ := h.store keyed26 ht (by unfold maxLen; omega) hkk (show rdB (.bool true) = some (.lit (.bool true), []) from rfl)
  have hsz : Maps.size (D.put (kl n) (.lit (.bool true))) = sz + 1 := by
    rw [size_put (h.tidy keyed26), (h2 n hn).1, hf, h1]; rfl
  refine ⟨w', hrun, ⟨_, hsz ▸ tight ho, hsz, fun j hj => ?_⟩, ht'.grown, ?_⟩
  · by_cases hjk : j = n
    · subst hjk
      refine ⟨?_, fun _ zd => ?_⟩
      · rw [has_put_same h.isMap hlit]; simp [updB]
      · exact atKey_put_same h.isMap hlit _ _
    · have hne : kl j ≠ kl n := fun e => hjk (kl_inj hj hn e)
      refine ⟨?_, fun hy zd => ?_⟩
      · rw [has_put_other hne, (h2 j hj).1]; simp [updB, hjk]
      · simp [updB, hjk] at hy
        rw [atKey_put_other hne]
        exact (h2 j hj).2 hy zd
  · obtain ⟨es, clock, es', clock', hb, rfl⟩ := ht'
    simp [Go.ChangeMaps.setBlock]
theorem SM.len {w : World} {b : Nat} {f : Int → Bool} {sz : Nat} (h : SM w b f sz) {t e : TypeId} (ht : Try.prog.underlying t = some (.map 26 e)) (ty : TypeId) : (Builtin.len_ #[t] ty #[.map (some b)]).run Try.prog w = .ok (.int .i64 sz) w := by
  obtain ⟨D, h, h1, h2⟩ := h
  rw [h.len ht ty, h1]
end Go.Proofs.Ytecoghabjcnbnaa
