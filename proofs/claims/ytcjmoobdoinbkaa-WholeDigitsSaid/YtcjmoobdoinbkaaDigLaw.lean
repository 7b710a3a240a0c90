/- The plain law of WholeDigits: texts of numbers, behind each other with a byte between, come apart again; with great letters they are read alike. No condition. -/
import Derived.Test.YtcjmoobdoinbkaaNumTexts
import Derived.Test.YtcjmoobdoinbkaaUpper
namespace Go.Proofs.Ytcjmoobdoinbkaa
open Go.RowKit
set_option linter.unusedVariables false
theorem dg_up_nat : ∀ n : Fin 256, dg (up n.val.toUInt8) = dg n.val.toUInt8 ∧ (up n.val.toUInt8 = 45 ↔ n.val.toUInt8 = 45) := by decide +kernel
theorem of_nat (c : UInt8) : c.toNat.toUInt8 = c := by simp
theorem dg_up (c : UInt8) : dg (up c) = dg c ∧ (up c = 45 ↔ c = 45) := by
  have := dg_up_nat ⟨c.toNat, c.toNat_lt⟩
  simp only at this
  rwa [of_nat] at this
theorem head_up (l : List UInt8) : (upL l).head? = some 45 ↔ l.head? = some 45 := by
  cases l with
  | nil => simp [upL]
  | cons c l => simp [upL, (dg_up c).2]
theorem acc_up (b : Int) (l : List UInt8) : accN b (upL l) = accN b l := by
  unfold accN upL
  rw [List.foldl_map]
  congr 1
  funext n c
  rw [(dg_up c).1]
theorem good_up (b : Int) (l : List UInt8) : (∀ c ∈ upL l, goodB b c = true) ↔ ∀ c ∈ l, goodB b c = true := by
  unfold upL goodB
  simp [(dg_up _).1]
theorem rest_up (l : List UInt8) : restL (upL l) = upL (restL l) := by
  unfold restL
  by_cases h : l.head? = some 45
  · rw [if_pos h, if_pos ((head_up l).2 h)]; simp [upL]
  · rw [if_neg h, if_neg (fun e => h ((head_up l).1 e))]
theorem minus_up (l : List UInt8) : minusL (upL l) = minusL l := by
  unfold minusL; exact decide_eq_decide.2 (head_up l)
theorem parse_up (l : List UInt8) (b : Int) : parseO (upL l) b = parseO l b := by
  unfold parseO
  rw [rest_up, minus_up, acc_up]
  have e : upL (restL l) = [] ↔ restL l = [] := by simp [upL]
  have g := good_up b (restL l)
  by_cases h : restL l = [] ∨ ¬ (∀ c ∈ restL l, goodB b c = true)
  · rw [if_pos h, if_pos (by rw [e, g]; exact h)]
  · rw [if_neg h, if_neg (by rw [e, g]; exact h)]
/-- What the text of a number is. -/
theorem in_form (a : Int) (n : Nat) (ia : I64 a) (hn1 : 2 ≤ n) (hn2 : n ≤ 36) : ∃ E, inL a n = (if a < 0 then 45 :: E else E) ∧ E ≠ [] ∧ E.length ≤ 64 ∧ (∀ c ∈ E, ∃ d, d < n ∧ c = chr d) ∧ accN n E = a.natAbs := by
  obtain ⟨i1, i2⟩ := ia
  obtain ⟨E, e1, e2, e3, e4, e5, _⟩ := digs_spec n hn1 hn2 65 a.natAbs [] 64 (by omega) (by omega) (by omega)
  rw [List.append_nil] at e1
  refine ⟨E, ?_, e2, e3, e4, e5⟩
  unfold inL
  rw [e1]
  split <;> rfl
theorem parse_in (a : Int) (n : Nat) (ia : I64 a) (hn1 : 2 ≤ n) (hn2 : n ≤ 36) : parseO (inL a n) n = (a, 0) := by
  obtain ⟨E, e1, e2, e3, e4, e5⟩ := in_form a n ia hn1 hn2
  obtain ⟨i1, i2⟩ := ia
  have hnh := head_not hn2 e4
  rw [e1]
  unfold parseO
  by_cases h : a < 0
  · rw [if_pos h, show restL (45 :: E) = E from rfl, show minusL (45 :: E) = true from rfl, if_neg (fun h => h.elim e2 (fun h => h (good_of hn2 e4))), e5, if_neg (fits_neg i1 i2), if_pos rfl, abs_neg h]
  · rw [if_neg h, show restL E = E from by unfold restL; rw [if_neg hnh], show minusL E = false from decide_eq_false hnh, if_neg (fun h => h.elim e2 (fun h => h (good_of hn2 e4))), e5, if_neg (fits_pos h i2), if_neg (by simp), abs_pos h]
theorem in_len (a : Int) (n : Nat) (ia : I64 a) (hn1 : 2 ≤ n) (hn2 : n ≤ 36) : (inL a n).length ≤ 65 := by
  obtain ⟨E, e1, _, e3, _⟩ := in_form a n ia hn1 hn2
  rw [e1]
  split
  · simp; omega
  · omega
theorem chr_no : ∀ d : Fin 36, chr d.val ≠ 59 ∧ chr d.val ≠ 43 ∧ chr d.val ≠ 45 := by decide +kernel
theorem in_no (a : Int) (n : Nat) (ia : I64 a) (hn1 : 2 ≤ n) (hn2 : n ≤ 36) : ∀ c ∈ inL a n, c ≠ 59 := by
  obtain ⟨E, e1, _, _, e4, _⟩ := in_form a n ia hn1 hn2
  have h : ∀ c ∈ E, c ≠ 59 := fun c hc => by
    obtain ⟨d, hd, rfl⟩ := e4 c hc
    exact (chr_no ⟨d, by omega⟩).1
  rw [e1]
  split
  · intro c hc
    rcases List.mem_cons.1 hc with rfl | hc
    · decide
    · exact h c hc
  · exact h
theorem chr_ten : ∀ d : Fin 10, isD (chr d.val) = true ∧ ((chr d.val).toNat : Int) - 48 = dg (chr d.val) := by decide +kernel
theorem run_all : ∀ (E : List UInt8), (∀ c ∈ E, isD c = true) → run E = E := fun E h => by
  unfold run
  induction E with
  | nil => rfl
  | cons c E ih => rw [List.takeWhile_cons, if_pos (h c (by simp)), ih (fun d hd => h d (by simp [hd]))]
theorem acc_ten (E : List UInt8) (h : ∀ c ∈ E, ((c.toNat : Int) - 48) = dg c) : accT E = accN 10 E := by
  unfold accT accN
  have : ∀ (E : List UInt8) (z : Int), (∀ c ∈ E, ((c.toNat : Int) - 48) = dg c) → E.foldl (fun n c => n * 10 + ((c.toNat : Int) - 48)) z = E.foldl (fun n c => n * 10 + dg c) z := by
    intro E
    induction E with
    | nil => intro z _; rfl
    | cons c E ih =>
      intro z hz
      rw [List.foldl_cons, List.foldl_cons, hz c (by simp)]
      exact ih _ (fun d hd => hz d (by simp [hd]))
  exact this E 0 h
theorem lead_in (a : Int) (ia : I64 a) : leadO (inL a 10) = (a, ((inL a 10).length : Int)) := by
  obtain ⟨E, e1, e2, e3, e4, e5⟩ := in_form a 10 ia (by omega) (by omega)
  obtain ⟨i1, i2⟩ := ia
  have hr : run E = E := run_all E (fun c hc => by obtain ⟨d, hd, rfl⟩ := e4 c hc; exact (chr_ten ⟨d, hd⟩).1)
  have ha : accT E = a.natAbs := by
    rw [acc_ten E (fun c hc => by obtain ⟨d, hd, rfl⟩ := e4 c hc; exact (chr_ten ⟨d, hd⟩).2)]; exact e5
  have hnh := head_not (by omega : 10 ≤ 36) e4
  have hnp : E.head? ≠ some 43 := fun h => by
    obtain ⟨d, hd, e⟩ := e4 43 (List.mem_of_mem_head? h)
    exact (chr_no ⟨d, by omega⟩).2.1 e.symm
  rw [e1]
  unfold leadO
  by_cases h : a < 0
  · have hs : sgn (45 :: E) = 1 := rfl
    have h4 : (45 :: E : List UInt8).head? = some 45 := rfl
    rw [if_pos h, hs, show (45 :: E : List UInt8).drop 1 = E from rfl, hr]
    simp only [h4, if_true, if_neg e2]
    rw [ha, IntWalk.wrap64_in _ (by omega), abs_neg h]
    congr 1
    simp; omega
  · have hs : sgn E = 0 := if_neg (fun q => q.elim hnh hnp)
    rw [if_neg h, hs, show E.drop 0 = E from rfl, hr]
    simp only [if_neg e2, if_neg hnh]
    rw [ha, IntWalk.wrap64_in _ (by omega), abs_pos h]
    congr 1
    simp
/-- Texts behind each other, with a byte between. -/
def allK (c : UInt8) (f : Nat → List UInt8) : Nat → List UInt8
  | 0 => []
  | k + 1 => (if 0 < k then allK c f k ++ [c] else allK c f k) ++ f k
theorem allK_len (c : UInt8) (f : Nat → List UInt8) (m : Nat) : ∀ k, (∀ i, i < k → (f i).length ≤ m) → (allK c f k).length ≤ k * (m + 1) := by
  intro k
  induction k with
  | zero => intro _; simp [allK]
  | succ k ih =>
    intro h
    have h1 := ih (fun i hi => h i (by omega))
    have h2 := h k (by omega)
    rw [Nat.succ_mul]
    unfold allK
    split <;> simp <;> omega
theorem fold_no (c : UInt8) (st : List (List UInt8) × List UInt8) (l : List UInt8) (h : ∀ x ∈ l, x ≠ c) : l.foldl (stp c) st = (st.1, st.2 ++ l) := by
  induction l generalizing st with
  | nil => simp
  | cons x l ih =>
    rw [List.foldl_cons, ih _ (fun y hy => h y (by simp [hy]))]
    unfold stp
    rw [if_neg (h x (by simp))]
    simp
theorem spl_all (c : UInt8) (f : Nat → List UInt8) : ∀ k, (∀ i, i ≤ k → ∀ x ∈ f i, x ≠ c) → spl c (allK c f (k + 1)) = ((List.range k).map f, f k) := by
  intro k
  induction k with
  | zero =>
    intro h
    have : allK c f 1 = f 0 := by simp [allK]
    rw [this]
    unfold spl
    rw [fold_no c _ _ (h 0 (Nat.le_refl _))]
    rfl
  | succ k ih =>
    intro h
    have e : allK c f (k + 1 + 1) = (allK c f (k + 1) ++ [c]) ++ f (k + 1) := by
      rw [allK, if_pos (by omega)]
    have h1 := ih (fun i hi => h i (by omega))
    have h2 : spl c (allK c f (k + 1) ++ [c]) = ((List.range k).map f ++ [f k], []) := by
      rw [spl_snoc, h1]; unfold stp; rw [if_pos rfl]
    rw [e]
    unfold spl at h2 ⊢
    rw [List.foldl_append, h2, fold_no c _ _ (h (k + 1) (Nat.le_refl _)), List.range_succ]
    simp
theorem pieces_all (c : UInt8) (f : Nat → List UInt8) (n : Nat) (h0 : 0 < n) (h : ∀ i, i < n → ∀ x ∈ f i, x ≠ c) : pieces c (allK c f n) = (List.range n).map f := by
  obtain ⟨k, rfl⟩ : ∃ k, n = k + 1 := ⟨n - 1, by omega⟩
  unfold pieces
  rw [spl_all c f k (fun i hi => h i (by omega)), List.range_succ]
  simp
end Go.Proofs.Ytcjmoobdoinbkaa
